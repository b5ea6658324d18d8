/-
  FamilyTells: its walk.
-/
import Derived.Test.YthfgccibiajneaaFamPls
import Derived.Test.YthfgccibiajneaaFamCheckC
import Derived.Deep.DeepCutAuto
import Derived.Deep.CutBlock
namespace Go.Proofs.Ythfgccibiajneaa
open Go.RowKit
theorem Pls.at {w : World} {b n : Nat} {c : Cf} {k : Ky} (h : Pls w (some ⟨b, 0, none⟩) n c k) {t : Nat} (ht : t < n) : b < w.heap.size ∧ w.cell? ⟨b, t * 2, none⟩ = some (.int .i64 t) ∧ w.cell? ⟨b, t * 2 + 1, none⟩ = some (.int .i64 (idx c k t)) := by
  obtain ⟨b', hb, hlt, hc⟩ := h (by omega)
  simp only [Option.some.injEq, Addr.mk.injEq, and_true] at hb
  obtain rfl := hb
  exact ⟨hlt, (hc t ht).1, (hc t ht).2⟩
theorem Pls.at0 {w : World} {b n : Nat} {c : Cf} {k : Ky} (h : Pls w (some ⟨b, 0, none⟩) n c k) (hn : 0 < n) : b < w.heap.size ∧ w.cell? ⟨b, 0, none⟩ = some (.int .i64 0) ∧ w.cell? ⟨b, 1, none⟩ = some (.int .i64 (idx c k 0)) := h.at (t := 0) hn
set_option maxRecDepth 100000 in
set_option maxHeartbeats 16000000 in
theorem tells_law (c : Cf) (a1 : Option Addr) (n1 c1 : Nat) (z1 : List Int) (k : Ky) (s n : Int) (w : World) (h1 : IsRow .i64 w a1 n1 c1 z1) (hs : (Lit.int .i64 s).wf = true) (hn : (Lit.int .i64 n).wf = true) :
    Calls Try.prog 3 #[.agg (cc c), .slice a1 n1 c1, .agg (kc k), .int .i64 s, .int .i64 n] w fun e w' => e = .returned (.bool true) ∧ Below w.heap.size w w' := by
  obtain ⟨hI, hm, _⟩ := h1.ints
  have HI := Lib.hid hI
  have HS := Lib.hid (i64_bounds hs)
  have HNW := Lib.hid hn
  clear h1 hI hs hn
  unfold maxLen at hm
  have CHK := Lib.hid (show ((chk c == 0) == cok c) = true by unfold chk; cases cok c <;> rfl)
  go_enter Try.func3, Try.ntmps3
  have HB := Lib.hid (Below.refl w.heap.size w)
  go_wp2_with fail
  have HBp := HB
  have C := at_new w 27 (cc c) (w.heap.size) rfl
  replace HB := Lib.hid (HB.out.alloc HB.out.size (.cells (cc c) 27))
  obtain ⟨gc, hg⟩ : ∃ g, g = w.heap.size := ⟨_, rfl⟩
  have hgs : gc = w.heap.size := by rw [hg]
  have b_gc : w.heap.size ≤ gc := by rw [hgs]; exact HBp.out.size
  have e_gc := Lib.hid hgs
  have S_w1 := Lib.hid (show (w.alloc (.cells (cc c) 27)).heap.size = gc + 1 by rw [World.size_alloc, hgs])
  rw [← hg] at C
  try rw [← hg]
  clear hg hgs HBp
  replace C := Lib.hid C
  generalize w.alloc (.cells (cc c) 27) = w1 at *
  have HBp := HB
  have K := at_new w1 31 (kc k) (gc + 1) (S_w1.out.symm)
  replace HB := Lib.hid (HB.out.alloc HB.out.size (.cells (kc k) 31))
  have Cp := C
  replace C := Lib.hid (C.out.alloc (.cells (kc k) 31))
  obtain ⟨gk, hg⟩ : ∃ g, g = gc + 1 := ⟨_, rfl⟩
  have hgs : gk = w1.heap.size := by rw [hg, S_w1.out]
  have b_gk : w.heap.size ≤ gk := by rw [hgs]; exact HBp.out.size
  have e_gk := Lib.hid hgs
  have S_w2 := Lib.hid (show (w1.alloc (.cells (kc k) 31)).heap.size = gk + 1 by rw [World.size_alloc, hgs])
  rw [← hg] at K
  try rw [← hg]
  have ne_C_K : gc ≠ gk := by have := Cp.out.lt; omega
  have ne_K_C : gk ≠ gc := fun h => ne_C_K h.symm
  clear hg hgs HBp Cp
  replace K := Lib.hid K
  generalize w1.alloc (.cells (kc k) 31) = w2 at *
  have r_C := C.out.row
  have o_C := C.out.open
  have l_C := C.out.lt
  have c_C := C.out.cell
  have z_C := C.out.frozen
  have r_K := K.out.row
  have o_K := K.out.open
  have l_K := K.out.lt
  have c_K := K.out.cell
  have z_K := K.out.frozen
  refine region_sq (fun _ => False) [(0, true), (3, true), (1, false), (2, true), (4, false), (5, true)] (by kernel_rfl) (by kernel_rfl) (fun _ _ d _ _ h => by cases d <;> exact h) ?_
  repeat (first
    | (refine sq_yes rfl (by rfl) (fun w' hM => by ((try replace hM := hM.of_drew); obtain ⟨hR1, hR2, hR3⟩ := hM.rules; clear hM; go_simp; with_reducible rfl)) ?_; simp only [Act.put, List.setIfInBounds_toArray, List.set_cons_zero, List.set_cons_succ])
    | (refine sq_no rfl (by rfl) ?_; simp only [Act.put, List.setIfInBounds_toArray, List.set_cons_zero, List.set_cons_succ]))
  clear r_C o_C l_C c_C z_C r_K o_K l_K c_K z_K
  replace C := Lib.hid C.out.drew
  replace K := Lib.hid K.out.drew
  replace HB := Lib.hid HB.out.drew
  generalize w2.drew = w3 at *
  refine sq_do_yes rfl (by rfl) (fun K_ hK_ => ?_)
  go_wp2_with fail
  refine (check_any c _).mono ?_
  rintro e w4 ⟨rfl, hb⟩
  have hbs : Below w3.heap.size w3 w4 := step_below (by first | exact Below.refl _ _ | exact (Below.refl _ _).drew | exact (Below.refl _ _).alloc (Nat.le_refl _) _ | exact ((Below.refl _ _).alloc (Nat.le_refl _) _).drew | exact ((Below.refl _ _).drew).alloc (Nat.le_refl _) _ | exact ((Below.refl _ _).alloc (Nat.le_refl _) _).alloc (by simp) _ | exact (((Below.refl _ _).alloc (Nat.le_refl _) _).alloc (by simp) _).drew | exact (((Below.refl _ _).alloc (Nat.le_refl _) _).alloc (by simp) _).alloc (by simp; omega) _) hb
  try clear HBz
  have HBz := HB.out.size
  replace HB := Lib.hid (step_below HB.out hbs)
  replace C := Lib.hid (C.out.below hbs C.out.lt)
  replace K := Lib.hid (K.out.below hbs K.out.lt)
  clear hbs
  go_wp2_with fail
  refine ⟨Mod.of_below hb, ?_⟩
  clear hb
  have r_C := C.out.row
  have o_C := C.out.open
  have l_C := C.out.lt
  have c_C := C.out.cell
  have z_C := C.out.frozen
  have r_K := K.out.row
  have o_K := K.out.open
  have l_K := K.out.lt
  have c_K := K.out.cell
  have z_K := K.out.frozen
  repeat (first
    | (refine sq_yes rfl (by rfl) (fun w' hM => by ((try replace hM := hM.of_drew); obtain ⟨hR1, hR2, hR3⟩ := hM.rules; clear hM; go_simp; with_reducible rfl)) ?_; simp only [Act.put, List.setIfInBounds_toArray, List.set_cons_zero, List.set_cons_succ])
    | (refine sq_no rfl (by rfl) ?_; simp only [Act.put, List.setIfInBounds_toArray, List.set_cons_zero, List.set_cons_succ]))
  clear r_C o_C l_C c_C z_C r_K o_K l_K c_K z_K
  refine sq_do_yes rfl (by rfl) (fun K_ hK_ => ?_)
  go_wp2_with fail
  refine (refCheck_any c _).mono ?_
  rintro e w5 ⟨rfl, hb⟩
  have hbs : Below w4.heap.size w4 w5 := step_below (by first | exact Below.refl _ _ | exact (Below.refl _ _).drew | exact (Below.refl _ _).alloc (Nat.le_refl _) _ | exact ((Below.refl _ _).alloc (Nat.le_refl _) _).drew | exact ((Below.refl _ _).drew).alloc (Nat.le_refl _) _ | exact ((Below.refl _ _).alloc (Nat.le_refl _) _).alloc (by simp) _ | exact (((Below.refl _ _).alloc (Nat.le_refl _) _).alloc (by simp) _).drew | exact (((Below.refl _ _).alloc (Nat.le_refl _) _).alloc (by simp) _).alloc (by simp; omega) _) hb
  try clear HBz
  have HBz := HB.out.size
  replace HB := Lib.hid (step_below HB.out hbs)
  replace C := Lib.hid (C.out.below hbs C.out.lt)
  replace K := Lib.hid (K.out.below hbs K.out.lt)
  clear hbs
  go_wp2_with fail
  refine ⟨Mod.of_below hb, ?_⟩
  clear hb
  have r_C := C.out.row
  have o_C := C.out.open
  have l_C := C.out.lt
  have c_C := C.out.cell
  have z_C := C.out.frozen
  have r_K := K.out.row
  have o_K := K.out.open
  have l_K := K.out.lt
  have c_K := K.out.cell
  have z_K := K.out.frozen
  repeat (first
    | (refine sq_yes rfl (by rfl) (fun w' hM => by ((try replace hM := hM.of_drew); obtain ⟨hR1, hR2, hR3⟩ := hM.rules; clear hM; go_simp; with_reducible rfl)) ?_; simp only [Act.put, List.setIfInBounds_toArray, List.set_cons_zero, List.set_cons_succ])
    | (refine sq_no rfl (by rfl) ?_; simp only [Act.put, List.setIfInBounds_toArray, List.set_cons_zero, List.set_cons_succ]))
  clear r_C o_C l_C c_C z_C r_K o_K l_K c_K z_K
  refine sq_end ?_
  rw [CHK.out, Bool.not_true]
  have r_C := C.out.row
  have o_C := C.out.open
  have l_C := C.out.lt
  have c_C := C.out.cell
  have z_C := C.out.frozen
  have r_K := K.out.row
  have o_K := K.out.open
  have l_K := K.out.lt
  have c_K := K.out.cell
  have z_K := K.out.frozen
  go_wp2_with fail
  clear r_C o_C l_C c_C z_C r_K o_K l_K c_K z_K
  
  go_loopw [11] (fun i wr => ∃ (j : Nat) (cx : Cf), j ≤ 2 ∧ i = .int .i64 j ∧ At wr gc 27 (cc cx) ∧ At wr gk 31 (kc k) ∧ Below w.heap.size w wr) (fun i _ => 2 - (intOf i).toNat)
  case atStart => exact ⟨0, c, Nat.zero_le _, rfl, C.out, K.out, HB.out⟩
  case round =>
    clear HB C K
    obtain ⟨j, cx, hj, rfl, hC_, hK_, hBel_⟩ := hrel
    have C := Lib.hid hC_
    have K := Lib.hid hK_
    have HB := Lib.hid hBel_
    clear hC_ hK_ hBel_
    by_cases hlt : j < 2
    · have hltz : (j : Int) < 2 := by omega
      go_upto_if 31 with (fail)
      
      go_cut [] (fun  wx => ∃ (cy : Cf), True ∧ At wx gc 27 (cc cy) ∧ At wx gk 31 (kc k) ∧ Below w.heap.size w wx)
      case first =>
        as_aux_lemma => -- ok
          by_cases hj1 : j = 1
          · subst hj1
            by_cases hl : 30 < n1
            · have tt := trivial
              
              go_wp2_with fail
              refine (awake_any _).mono ?_
              rintro e w6 ⟨rfl, hb⟩
              have hbs : Below wr.heap.size wr w6 := step_below (by first | exact Below.refl _ _ | exact (Below.refl _ _).drew | exact (Below.refl _ _).alloc (Nat.le_refl _) _ | exact ((Below.refl _ _).alloc (Nat.le_refl _) _).drew | exact ((Below.refl _ _).drew).alloc (Nat.le_refl _) _ | exact ((Below.refl _ _).alloc (Nat.le_refl _) _).alloc (by simp) _ | exact (((Below.refl _ _).alloc (Nat.le_refl _) _).alloc (by simp) _).drew | exact (((Below.refl _ _).alloc (Nat.le_refl _) _).alloc (by simp) _).alloc (by simp; omega) _) hb
              try clear HBz
              have HBz := HB.out.size
              replace HB := Lib.hid (step_below HB.out hbs)
              replace C := Lib.hid (C.out.below hbs C.out.lt)
              replace K := Lib.hid (K.out.below hbs K.out.lt)
              clear hbs
              clear hb
              go_wp2_with fail
              go_ret
              exact ⟨rfl, HB.out⟩
              
            · have hlz : decide ((30 : Int) < (n1 : Int)) = false := by simp; omega
              
              go_wp2_with fail
              refine (config_any a1 n1 c1 (z1.take n1) _ (HI.out.below HB.out) (by omega)).mono ?_
              rintro e w7 ⟨rfl, hb⟩
              have hbs : Below wr.heap.size wr w7 := step_below (by first | exact Below.refl _ _ | exact (Below.refl _ _).drew | exact (Below.refl _ _).alloc (Nat.le_refl _) _ | exact ((Below.refl _ _).alloc (Nat.le_refl _) _).drew | exact ((Below.refl _ _).drew).alloc (Nat.le_refl _) _ | exact ((Below.refl _ _).alloc (Nat.le_refl _) _).alloc (by simp) _ | exact (((Below.refl _ _).alloc (Nat.le_refl _) _).alloc (by simp) _).drew | exact (((Below.refl _ _).alloc (Nat.le_refl _) _).alloc (by simp) _).alloc (by simp; omega) _) hb
              try clear HBz
              have HBz := HB.out.size
              replace HB := Lib.hid (step_below HB.out hbs)
              replace C := Lib.hid (C.out.below hbs C.out.lt)
              replace K := Lib.hid (K.out.below hbs K.out.lt)
              clear hbs
              clear hb
              obtain ⟨c', hc'⟩ : ∃ c', c' = config (z1.take n1) := ⟨_, rfl⟩
              rw [← hc']
              clear hc'
              have hst := store_at (P := Try.prog) _ gc 0 27 (cc cx) (cc c') C.out (by rw [cc_size, cc_size]; exact Nat.le_refl _) (cc_one _)
              go_wp2_with fail
              clear hst
              have hm_ := Mod.setCells (M := fun i => i = gc) rfl (cc c').toList 0 w7
              replace K := Lib.hid (K.out.mod hm_ ne_K_C)
              replace HB := Lib.hid (HB.out.trans (mod_below hm_ HB.out.size (fun i hi => by rw [hi]; exact b_gc)))
              have hC_ := At.setCells (cc c').toList 0 _ _ C.out
              rw [splice_all _ _ (by rw [cc_size, cc_size])] at hC_
              replace C := Lib.hid hC_
              clear hm_ hC_
              go_meet
              exact ⟨c', trivial, C.out, K.out, HB.out⟩
              
          · have hj0 : j = 0 := by omega
            subst hj0
            go_wp2_with fail
            go_meet
            exact ⟨cx, trivial, C.out, K.out, HB.out⟩
      case rest =>
        clear HB C K
        obtain ⟨cy, _, hC_, hK_, hBel_⟩ := hcut
        have C := Lib.hid hC_
        have K := Lib.hid hK_
        have HB := Lib.hid hBel_
        clear hC_ hK_ hBel_
        cases hok : cok cy
        · have OK := Lib.hid hok
          clear hok
          
          have r_C := C.out.row
          have o_C := C.out.open
          have l_C := C.out.lt
          have c_C := C.out.cell
          have z_C := C.out.frozen
          have r_K := K.out.row
          have o_K := K.out.open
          have l_K := K.out.lt
          have c_K := K.out.cell
          have z_K := K.out.frozen
          go_wp2_with fail
          clear r_C o_C l_C c_C z_C r_K o_K l_K c_K z_K
          refine (new_bad cy _ OK.out).mono ?_
          rintro e w8 ⟨rfl, hb⟩
          have hbs : Below wc.heap.size wc w8 := step_below (by first | exact Below.refl _ _ | exact (Below.refl _ _).drew | exact (Below.refl _ _).alloc (Nat.le_refl _) _ | exact ((Below.refl _ _).alloc (Nat.le_refl _) _).drew | exact ((Below.refl _ _).drew).alloc (Nat.le_refl _) _ | exact ((Below.refl _ _).alloc (Nat.le_refl _) _).alloc (by simp) _ | exact (((Below.refl _ _).alloc (Nat.le_refl _) _).alloc (by simp) _).drew | exact (((Below.refl _ _).alloc (Nat.le_refl _) _).alloc (by simp) _).alloc (by simp; omega) _) hb
          try clear HBz
          have HBz := HB.out.size
          replace HB := Lib.hid (step_below HB.out hbs)
          replace C := Lib.hid (C.out.below hbs C.out.lt)
          replace K := Lib.hid (K.out.below hbs K.out.lt)
          clear hbs
          clear hb
          have r_C := C.out.row
          have o_C := C.out.open
          have l_C := C.out.lt
          have c_C := C.out.cell
          have z_C := C.out.frozen
          have r_K := K.out.row
          have o_K := K.out.open
          have l_K := K.out.lt
          have c_K := K.out.cell
          have z_K := K.out.frozen
          go_wp2_with fail
          clear r_C o_C l_C c_C z_C r_K o_K l_K c_K z_K
          refine (refCheck_any cy _).mono ?_
          rintro e w9 ⟨rfl, hb⟩
          have hbs : Below w8.heap.size w8 w9 := step_below (by first | exact Below.refl _ _ | exact (Below.refl _ _).drew | exact (Below.refl _ _).alloc (Nat.le_refl _) _ | exact ((Below.refl _ _).alloc (Nat.le_refl _) _).drew | exact ((Below.refl _ _).drew).alloc (Nat.le_refl _) _ | exact ((Below.refl _ _).alloc (Nat.le_refl _) _).alloc (by simp) _ | exact (((Below.refl _ _).alloc (Nat.le_refl _) _).alloc (by simp) _).drew | exact (((Below.refl _ _).alloc (Nat.le_refl _) _).alloc (by simp) _).alloc (by simp; omega) _) hb
          try clear HBz
          have HBz := HB.out.size
          replace HB := Lib.hid (step_below HB.out hbs)
          replace C := Lib.hid (C.out.below hbs C.out.lt)
          replace K := Lib.hid (K.out.below hbs K.out.lt)
          clear hbs
          clear hb
          rw [OK.out]
          have r_C := C.out.row
          have o_C := C.out.open
          have l_C := C.out.lt
          have c_C := C.out.cell
          have z_C := C.out.frozen
          have r_K := K.out.row
          have o_K := K.out.open
          have l_K := K.out.lt
          have c_K := K.out.cell
          have z_K := K.out.frozen
          go_wp2_with fail
          clear r_C o_C l_C c_C z_C r_K o_K l_K c_K z_K
          
          go_roundw
          case rel => exact ⟨j + 1, cy, by omega, by go_num, C.out, K.out, HB.out⟩
          case measure => simp [intOf] <;> omega
          
        · have OK := Lib.hid hok
          clear hok
          have FC := fits_of OK.out
          have e1 : cy.stages ≤ 4 := FC.st.2
          have e2 : 1 ≤ cy.size := by have := FC.sz.1; omega
          have e3 : cy.size ≤ 1000000 := by have := FC.sz.2; omega
          have e5 : 0 ≤ cy.hashes ∧ cy.hashes ≤ 80 := by have := FC.ha; omega
          have e7 : 1 ≤ cy.bloom := by have := FC.bl; omega
          have dg := Lib.hid FC.dg
          obtain ⟨S, hS⟩ : ∃ S : Nat, cy.stages = S := ⟨cy.stages.toNat, by have := FC.st; omega⟩
          have HST := Lib.hid hS
          have hS4 : 1 ≤ S ∧ S ≤ 4 := by have := FC.st; omega
          clear hS FC
          have hpl : ∃ (x y : Int) (β : Bool), placeOf cy k s = .tuple #[.agg #[.int .i64 x, .int .i64 y], .bool β] ∧ ((β = true ∧ kvld k = true ∧ s < S ∧ ∃ m : Nat, m ≤ 3 ∧ s = m ∧ x = m ∧ y = idx cy k m) ∨ (β = false ∧ (kvld k = false ∨ s < 0 ∨ (S : Int) ≤ s))) := by
            by_cases hg : kvld k = true ∧ 0 ≤ s ∧ s < S
            · obtain ⟨g1, g2, g3⟩ := hg
              obtain ⟨m, rfl⟩ := Int.eq_ofNat_of_zero_le g2
              exact ⟨_, _, _, placeOf_yes cy k m g1 (by rw [HST.out]; exact g3), .inl ⟨rfl, g1, g3, m, by omega, rfl, rfl, rfl⟩⟩
            · have hg' : kvld k = false ∨ s < 0 ∨ (S : Int) ≤ s := by
                cases hk : kvld k
                · exact .inl rfl
                · refine .inr ?_
                  rcases Int.lt_or_le s 0 with h | h
                  · exact .inl h
                  · exact .inr (Int.not_lt.1 fun h2 => hg ⟨hk, h, h2⟩)
              exact ⟨_, _, _, placeOf_no cy k s (by rw [HST.out]; exact hg'), .inr ⟨rfl, hg'⟩⟩
          obtain ⟨px, py, β, hpl, hβ⟩ := hpl
          have HPL := Lib.hid hpl
          have HBT := Lib.hid hβ
          clear hpl hβ
          have r_C := C.out.row
          have o_C := C.out.open
          have l_C := C.out.lt
          have c_C := C.out.cell
          have z_C := C.out.frozen
          have r_K := K.out.row
          have o_K := K.out.open
          have l_K := K.out.lt
          have c_K := K.out.cell
          have z_K := K.out.frozen
          go_wp2_with fail
          clear r_C o_C l_C c_C z_C r_K o_K l_K c_K z_K
          refine (new_ok cy _ OK.out).mono ?_
          rintro e w10 ⟨gf, rfl, hgf, hF, hb⟩
          have hbs : Below wc.heap.size wc w10 := step_below (by first | exact Below.refl _ _ | exact (Below.refl _ _).drew | exact (Below.refl _ _).alloc (Nat.le_refl _) _ | exact ((Below.refl _ _).alloc (Nat.le_refl _) _).drew | exact ((Below.refl _ _).drew).alloc (Nat.le_refl _) _ | exact ((Below.refl _ _).alloc (Nat.le_refl _) _).alloc (by simp) _ | exact (((Below.refl _ _).alloc (Nat.le_refl _) _).alloc (by simp) _).drew | exact (((Below.refl _ _).alloc (Nat.le_refl _) _).alloc (by simp) _).alloc (by simp; omega) _) hb
          try clear HBz
          have HBz := HB.out.size
          replace HB := Lib.hid (step_below HB.out hbs)
          replace C := Lib.hid (C.out.below hbs C.out.lt)
          replace K := Lib.hid (K.out.below hbs K.out.lt)
          clear hbs
          clear hb
          have F := Lib.hid hF
          clear hF hgf
          
          have r_C := C.out.row
          have o_C := C.out.open
          have l_C := C.out.lt
          have c_C := C.out.cell
          have z_C := C.out.frozen
          have r_K := K.out.row
          have o_K := K.out.open
          have l_K := K.out.lt
          have c_K := K.out.cell
          have z_K := K.out.frozen
          have r_F := F.out.row
          have o_F := F.out.open
          have l_F := F.out.lt
          have c_F := F.out.cell
          have z_F := F.out.frozen
          go_wp2_with fail
          clear r_C o_C l_C c_C z_C r_K o_K l_K c_K z_K r_F o_F l_F c_F z_F
          refine (refCheck_any cy _).mono ?_
          rintro e w11 ⟨rfl, hb⟩
          have hbs : Below w10.heap.size w10 w11 := step_below (by first | exact Below.refl _ _ | exact (Below.refl _ _).drew | exact (Below.refl _ _).alloc (Nat.le_refl _) _ | exact ((Below.refl _ _).alloc (Nat.le_refl _) _).drew | exact ((Below.refl _ _).drew).alloc (Nat.le_refl _) _ | exact ((Below.refl _ _).alloc (Nat.le_refl _) _).alloc (by simp) _ | exact (((Below.refl _ _).alloc (Nat.le_refl _) _).alloc (by simp) _).drew | exact (((Below.refl _ _).alloc (Nat.le_refl _) _).alloc (by simp) _).alloc (by simp; omega) _) hb
          try clear HBz
          have HBz := HB.out.size
          replace HB := Lib.hid (step_below HB.out hbs)
          replace C := Lib.hid (C.out.below hbs C.out.lt)
          replace K := Lib.hid (K.out.below hbs K.out.lt)
          replace F := Lib.hid (F.out.below hbs F.out.lt)
          clear hbs
          clear hb
          rw [OK.out]
          have r_C := C.out.row
          have o_C := C.out.open
          have l_C := C.out.lt
          have c_C := C.out.cell
          have z_C := C.out.frozen
          have r_K := K.out.row
          have o_K := K.out.open
          have l_K := K.out.lt
          have c_K := K.out.cell
          have z_K := K.out.frozen
          have r_F := F.out.row
          have o_F := F.out.open
          have l_F := F.out.lt
          have c_F := F.out.cell
          have z_F := F.out.frozen
          go_wp2_with fail
          clear r_C o_C l_C c_C z_C r_K o_K l_K c_K z_K r_F o_F l_F c_F z_F
          refine (place_any gf cy k s _ F.out e1 e2).mono ?_
          rintro e w12 ⟨rfl, hb⟩
          have hbs : Below w11.heap.size w11 w12 := step_below (by first | exact Below.refl _ _ | exact (Below.refl _ _).drew | exact (Below.refl _ _).alloc (Nat.le_refl _) _ | exact ((Below.refl _ _).alloc (Nat.le_refl _) _).drew | exact ((Below.refl _ _).drew).alloc (Nat.le_refl _) _ | exact ((Below.refl _ _).alloc (Nat.le_refl _) _).alloc (by simp) _ | exact (((Below.refl _ _).alloc (Nat.le_refl _) _).alloc (by simp) _).drew | exact (((Below.refl _ _).alloc (Nat.le_refl _) _).alloc (by simp) _).alloc (by simp; omega) _) hb
          try clear HBz
          have HBz := HB.out.size
          replace HB := Lib.hid (step_below HB.out hbs)
          replace C := Lib.hid (C.out.below hbs C.out.lt)
          replace K := Lib.hid (K.out.below hbs K.out.lt)
          replace F := Lib.hid (F.out.below hbs F.out.lt)
          clear hbs
          clear hb
          rw [HPL.out]
          go_upto_region 17 with fail
          have HBp := HB
          have PB := at_new w12 41 (#[.int .i64 px, .int .i64 py]) (w12.heap.size) rfl
          replace HB := Lib.hid (HB.out.alloc HB.out.size (.cells (#[.int .i64 px, .int .i64 py]) 41))
          have Cp := C
          replace C := Lib.hid (C.out.alloc (.cells (#[.int .i64 px, .int .i64 py]) 41))
          have Kp := K
          replace K := Lib.hid (K.out.alloc (.cells (#[.int .i64 px, .int .i64 py]) 41))
          have Fp := F
          replace F := Lib.hid (F.out.alloc (.cells (#[.int .i64 px, .int .i64 py]) 41))
          obtain ⟨gp, hg⟩ : ∃ g, g = w12.heap.size := ⟨_, rfl⟩
          have hgs : gp = w12.heap.size := by rw [hg]
          have b_gp : w.heap.size ≤ gp := by rw [hgs]; exact HBp.out.size
          have e_gp := Lib.hid hgs
          have S_w13 := Lib.hid (show (w12.alloc (.cells (#[.int .i64 px, .int .i64 py]) 41)).heap.size = gp + 1 by rw [World.size_alloc, hgs])
          rw [← hg] at PB
          try rw [← hg]
          have ne_C_PB : gc ≠ gp := by have := Cp.out.lt; omega
          have ne_PB_C : gp ≠ gc := fun h => ne_C_PB h.symm
          have ne_K_PB : gk ≠ gp := by have := Kp.out.lt; omega
          have ne_PB_K : gp ≠ gk := fun h => ne_K_PB h.symm
          have ne_F_PB : gf ≠ gp := by have := Fp.out.lt; omega
          have ne_PB_F : gp ≠ gf := fun h => ne_F_PB h.symm
          clear hg hgs HBp Cp Kp Fp
          replace PB := Lib.hid PB
          generalize w12.alloc (.cells (#[.int .i64 px, .int .i64 py]) 41) = w13 at *
          go_cut [16] (fun s16 wx => s16 = .bool β ∧ At wx gc 27 (cc cy) ∧ At wx gk 31 (kc k) ∧ At wx gf 139 (fc cy) ∧ At wx gp 41 (#[.int .i64 px, .int .i64 py]) ∧ Below w.heap.size w wx)
          case first =>
            as_aux_lemma => -- ok
              rcases HBT.out with ⟨rfl, hk, hss, m, hm3, rfl, rfl, rfl⟩ | ⟨rfl, hno⟩
              · have tt := trivial
                
                have hm0 : (0 : Int) ≤ (m : Int) := by omega
                have HKV := Lib.hid (hk)
                have r_K := K.out.row
                have o_K := K.out.open
                have l_K := K.out.lt
                have c_K := K.out.cell
                have z_K := K.out.frozen
                go_wp2_with fail
                clear r_K o_K l_K c_K z_K
                refine (refKvalid_any k _).mono ?_
                rintro e w14 ⟨rfl, hb⟩
                have hbs : Below w13.heap.size w13 w14 := step_below (by first | exact Below.refl _ _ | exact (Below.refl _ _).drew | exact (Below.refl _ _).alloc (Nat.le_refl _) _ | exact ((Below.refl _ _).alloc (Nat.le_refl _) _).drew | exact ((Below.refl _ _).drew).alloc (Nat.le_refl _) _ | exact ((Below.refl _ _).alloc (Nat.le_refl _) _).alloc (by simp) _ | exact (((Below.refl _ _).alloc (Nat.le_refl _) _).alloc (by simp) _).drew | exact (((Below.refl _ _).alloc (Nat.le_refl _) _).alloc (by simp) _).alloc (by simp; omega) _) hb
                try clear HBz
                have HBz := HB.out.size
                replace HB := Lib.hid (step_below HB.out hbs)
                replace C := Lib.hid (C.out.below hbs C.out.lt)
                replace K := Lib.hid (K.out.below hbs K.out.lt)
                replace F := Lib.hid (F.out.below hbs F.out.lt)
                replace PB := Lib.hid (PB.out.below hbs PB.out.lt)
                clear hbs
                clear hb
                rw [HKV.out]
                have hcs := HST.out
                have r_C := C.out.row
                have o_C := C.out.open
                have l_C := C.out.lt
                have c_C := C.out.cell
                have z_C := C.out.frozen
                go_wp2_with fail
                clear r_C o_C l_C c_C z_C
                clear hcs
                go_meet
                exact ⟨rfl, C.out, K.out, F.out, PB.out, HB.out⟩
                
              · cases hk : kvld k
                · have tt := trivial
                  
                  have HKV := Lib.hid (hk)
                  have r_K := K.out.row
                  have o_K := K.out.open
                  have l_K := K.out.lt
                  have c_K := K.out.cell
                  have z_K := K.out.frozen
                  go_wp2_with fail
                  clear r_K o_K l_K c_K z_K
                  refine (refKvalid_any k _).mono ?_
                  rintro e w15 ⟨rfl, hb⟩
                  have hbs : Below w13.heap.size w13 w15 := step_below (by first | exact Below.refl _ _ | exact (Below.refl _ _).drew | exact (Below.refl _ _).alloc (Nat.le_refl _) _ | exact ((Below.refl _ _).alloc (Nat.le_refl _) _).drew | exact ((Below.refl _ _).drew).alloc (Nat.le_refl _) _ | exact ((Below.refl _ _).alloc (Nat.le_refl _) _).alloc (by simp) _ | exact (((Below.refl _ _).alloc (Nat.le_refl _) _).alloc (by simp) _).drew | exact (((Below.refl _ _).alloc (Nat.le_refl _) _).alloc (by simp) _).alloc (by simp; omega) _) hb
                  try clear HBz
                  have HBz := HB.out.size
                  replace HB := Lib.hid (step_below HB.out hbs)
                  replace C := Lib.hid (C.out.below hbs C.out.lt)
                  replace K := Lib.hid (K.out.below hbs K.out.lt)
                  replace F := Lib.hid (F.out.below hbs F.out.lt)
                  replace PB := Lib.hid (PB.out.below hbs PB.out.lt)
                  clear hbs
                  clear hb
                  rw [HKV.out]
                  have hcs := HST.out
                  have r_C := C.out.row
                  have o_C := C.out.open
                  have l_C := C.out.lt
                  have c_C := C.out.cell
                  have z_C := C.out.frozen
                  go_wp2_with fail
                  clear r_C o_C l_C c_C z_C
                  clear hcs
                  go_meet
                  exact ⟨rfl, C.out, K.out, F.out, PB.out, HB.out⟩
                  
                · rcases hno with h | h | h
                  · rw [hk] at h; cases h
                  · have tt := trivial
                    
                    have h0 : decide (0 ≤ s) = false := by simpa using h
                    have HKV := Lib.hid (hk)
                    have r_K := K.out.row
                    have o_K := K.out.open
                    have l_K := K.out.lt
                    have c_K := K.out.cell
                    have z_K := K.out.frozen
                    go_wp2_with fail
                    clear r_K o_K l_K c_K z_K
                    refine (refKvalid_any k _).mono ?_
                    rintro e w16 ⟨rfl, hb⟩
                    have hbs : Below w13.heap.size w13 w16 := step_below (by first | exact Below.refl _ _ | exact (Below.refl _ _).drew | exact (Below.refl _ _).alloc (Nat.le_refl _) _ | exact ((Below.refl _ _).alloc (Nat.le_refl _) _).drew | exact ((Below.refl _ _).drew).alloc (Nat.le_refl _) _ | exact ((Below.refl _ _).alloc (Nat.le_refl _) _).alloc (by simp) _ | exact (((Below.refl _ _).alloc (Nat.le_refl _) _).alloc (by simp) _).drew | exact (((Below.refl _ _).alloc (Nat.le_refl _) _).alloc (by simp) _).alloc (by simp; omega) _) hb
                    try clear HBz
                    have HBz := HB.out.size
                    replace HB := Lib.hid (step_below HB.out hbs)
                    replace C := Lib.hid (C.out.below hbs C.out.lt)
                    replace K := Lib.hid (K.out.below hbs K.out.lt)
                    replace F := Lib.hid (F.out.below hbs F.out.lt)
                    replace PB := Lib.hid (PB.out.below hbs PB.out.lt)
                    clear hbs
                    clear hb
                    rw [HKV.out]
                    have hcs := HST.out
                    have r_C := C.out.row
                    have o_C := C.out.open
                    have l_C := C.out.lt
                    have c_C := C.out.cell
                    have z_C := C.out.frozen
                    go_wp2_with fail
                    clear r_C o_C l_C c_C z_C
                    clear hcs
                    go_meet
                    exact ⟨rfl, C.out, K.out, F.out, PB.out, HB.out⟩
                    
                  · have tt := trivial
                    
                    have h1 : decide (s < (S : Int)) = false := by simp; omega
                    have h0 : 0 ≤ s := by omega
                    have HKV := Lib.hid (hk)
                    have r_K := K.out.row
                    have o_K := K.out.open
                    have l_K := K.out.lt
                    have c_K := K.out.cell
                    have z_K := K.out.frozen
                    go_wp2_with fail
                    clear r_K o_K l_K c_K z_K
                    refine (refKvalid_any k _).mono ?_
                    rintro e w17 ⟨rfl, hb⟩
                    have hbs : Below w13.heap.size w13 w17 := step_below (by first | exact Below.refl _ _ | exact (Below.refl _ _).drew | exact (Below.refl _ _).alloc (Nat.le_refl _) _ | exact ((Below.refl _ _).alloc (Nat.le_refl _) _).drew | exact ((Below.refl _ _).drew).alloc (Nat.le_refl _) _ | exact ((Below.refl _ _).alloc (Nat.le_refl _) _).alloc (by simp) _ | exact (((Below.refl _ _).alloc (Nat.le_refl _) _).alloc (by simp) _).drew | exact (((Below.refl _ _).alloc (Nat.le_refl _) _).alloc (by simp) _).alloc (by simp; omega) _) hb
                    try clear HBz
                    have HBz := HB.out.size
                    replace HB := Lib.hid (step_below HB.out hbs)
                    replace C := Lib.hid (C.out.below hbs C.out.lt)
                    replace K := Lib.hid (K.out.below hbs K.out.lt)
                    replace F := Lib.hid (F.out.below hbs F.out.lt)
                    replace PB := Lib.hid (PB.out.below hbs PB.out.lt)
                    clear hbs
                    clear hb
                    rw [HKV.out]
                    have hcs := HST.out
                    have r_C := C.out.row
                    have o_C := C.out.open
                    have l_C := C.out.lt
                    have c_C := C.out.cell
                    have z_C := C.out.frozen
                    go_wp2_with fail
                    clear r_C o_C l_C c_C z_C
                    clear hcs
                    go_meet
                    exact ⟨rfl, C.out, K.out, F.out, PB.out, HB.out⟩
                    
          case rest =>
            clear HB C K F PB
            obtain ⟨rfl, hC_, hK_, hF_, hPB_, hBel_⟩ := hcut
            have C := Lib.hid hC_
            have K := Lib.hid hK_
            have F := Lib.hid hF_
            have PB := Lib.hid hPB_
            have HB := Lib.hid hBel_
            clear hC_ hK_ hF_ hPB_ hBel_
            have HBL := Lib.hid (show (bitsOf cy k).length ≤ 80 by
              cases hk : kvld k
              · unfold bitsOf; rw [hk]; exact Nat.zero_le _
              · rw [bitsOf_length cy k hk]; omega)
            have BE := Lib.hid (show (bitsOf cy k == bitsOf cy k) = true by simp)
            obtain ⟨dv, hdv⟩ : ∃ x, x = digOf cy k := ⟨_, rfl⟩
            obtain ⟨sl, hsl⟩ : ∃ x, x = slotOf cy k n := ⟨_, rfl⟩
            have DV := Lib.hid hdv.symm
            have SL := Lib.hid hsl.symm
            clear hdv hsl
            go_upto_region 18 with fail
            go_cut [120] (fun s120 wx => s120 = .bool false ∧ At wx gc 27 (cc cy) ∧ At wx gk 31 (kc k) ∧ At wx gf 139 (fc cy) ∧ At wx gp 41 (#[.int .i64 px, .int .i64 py]) ∧ Below w.heap.size w wx)
            case first =>
              as_aux_lemma => -- ok
                rcases HBT.out with ⟨rfl, hk, hss, m, hm3, rfl, rfl, rfl⟩ | ⟨rfl, hno⟩
                · have hgp := guardP
                  have hnp := neqP
                  
                  have r_C := C.out.row
                  have o_C := C.out.open
                  have l_C := C.out.lt
                  have c_C := C.out.cell
                  have z_C := C.out.frozen
                  have r_K := K.out.row
                  have o_K := K.out.open
                  have l_K := K.out.lt
                  have c_K := K.out.cell
                  have z_K := K.out.frozen
                  have r_F := F.out.row
                  have o_F := F.out.open
                  have l_F := F.out.lt
                  have c_F := F.out.cell
                  have z_F := F.out.frozen
                  have r_PB := PB.out.row
                  have o_PB := PB.out.open
                  have l_PB := PB.out.lt
                  have c_PB := PB.out.cell
                  have z_PB := PB.out.frozen
                  refine region_sq (fun _ => False) [(0, true), (1, true), (2, true), (3, true), (4, true), (5, true), (6, true), (7, true), (8, true), (9, true), (10, false), (11, true), (12, true), (13, true), (14, true), (15, true), (16, true), (18, true), (19, true), (17, false), (20, false), (21, true), (22, true), (23, true), (24, true), (25, true), (27, true), (28, true), (26, false), (29, false), (30, false), (31, true), (32, true), (33, true), (34, true), (35, true), (36, true), (38, true), (39, true), (40, true), (37, false), (41, false), (42, true), (43, true)] (by kernel_rfl) (by kernel_rfl) (fun _ _ d _ _ h => by cases d <;> exact h) ?_
                  repeat (first
                    | (refine sq_yes rfl (by rfl) (fun w' hM => by ((try replace hM := hM.of_drew); obtain ⟨hR1, hR2, hR3⟩ := hM.rules; clear hM; go_simp; with_reducible rfl)) ?_; simp only [Act.put, List.setIfInBounds_toArray, List.set_cons_zero, List.set_cons_succ])
                    | (refine sq_no rfl (by rfl) ?_; simp only [Act.put, List.setIfInBounds_toArray, List.set_cons_zero, List.set_cons_succ]))
                  clear r_C o_C l_C c_C z_C r_K o_K l_K c_K z_K r_F o_F l_F c_F z_F r_PB o_PB l_PB c_PB z_PB
                  replace C := Lib.hid C.out.drew
                  replace K := Lib.hid K.out.drew
                  replace F := Lib.hid F.out.drew
                  replace PB := Lib.hid PB.out.drew
                  replace HB := Lib.hid HB.out.drew
                  generalize wc.drew = w18 at *
                  refine sq_do_yes rfl (by rfl) (fun K_ hK_ => ?_)
                  go_wp2_with fail
                  refine (refPlace_any cy k m (by omega) e2 e3 _).mono ?_
                  rintro e w19 ⟨rfl, hb⟩
                  have hbs : Below w18.heap.size w18 w19 := step_below (by first | exact Below.refl _ _ | exact (Below.refl _ _).drew | exact (Below.refl _ _).alloc (Nat.le_refl _) _ | exact ((Below.refl _ _).alloc (Nat.le_refl _) _).drew | exact ((Below.refl _ _).drew).alloc (Nat.le_refl _) _ | exact ((Below.refl _ _).alloc (Nat.le_refl _) _).alloc (by simp) _ | exact (((Below.refl _ _).alloc (Nat.le_refl _) _).alloc (by simp) _).drew | exact (((Below.refl _ _).alloc (Nat.le_refl _) _).alloc (by simp) _).alloc (by simp; omega) _) hb
                  try clear HBz
                  have HBz := HB.out.size
                  replace HB := Lib.hid (step_below HB.out hbs)
                  replace C := Lib.hid (C.out.below hbs C.out.lt)
                  replace K := Lib.hid (K.out.below hbs K.out.lt)
                  replace F := Lib.hid (F.out.below hbs F.out.lt)
                  replace PB := Lib.hid (PB.out.below hbs PB.out.lt)
                  clear hbs
                  go_wp2_with fail
                  refine ⟨Mod.of_below hb, ?_⟩
                  clear hb
                  have r_C := C.out.row
                  have o_C := C.out.open
                  have l_C := C.out.lt
                  have c_C := C.out.cell
                  have z_C := C.out.frozen
                  have r_K := K.out.row
                  have o_K := K.out.open
                  have l_K := K.out.lt
                  have c_K := K.out.cell
                  have z_K := K.out.frozen
                  have r_F := F.out.row
                  have o_F := F.out.open
                  have l_F := F.out.lt
                  have c_F := F.out.cell
                  have z_F := F.out.frozen
                  have r_PB := PB.out.row
                  have o_PB := PB.out.open
                  have l_PB := PB.out.lt
                  have c_PB := PB.out.cell
                  have z_PB := PB.out.frozen
                  repeat (first
                    | (refine sq_yes rfl (by rfl) (fun w' hM => by ((try replace hM := hM.of_drew); obtain ⟨hR1, hR2, hR3⟩ := hM.rules; clear hM; go_simp; with_reducible rfl)) ?_; simp only [Act.put, List.setIfInBounds_toArray, List.set_cons_zero, List.set_cons_succ])
                    | (refine sq_no rfl (by rfl) ?_; simp only [Act.put, List.setIfInBounds_toArray, List.set_cons_zero, List.set_cons_succ]))
                  clear r_C o_C l_C c_C z_C r_K o_K l_K c_K z_K r_F o_F l_F c_F z_F r_PB o_PB l_PB c_PB z_PB
                  refine sq_do_yes rfl (by rfl) (fun K_ hK_ => ?_)
                  go_wp2_with fail
                  refine (digest_any gf cy k _ F.out dg.out.1 dg.out.2).mono ?_
                  rintro e w20 ⟨rfl, hb⟩
                  have hbs : Below w19.heap.size w19 w20 := step_below (by first | exact Below.refl _ _ | exact (Below.refl _ _).drew | exact (Below.refl _ _).alloc (Nat.le_refl _) _ | exact ((Below.refl _ _).alloc (Nat.le_refl _) _).drew | exact ((Below.refl _ _).drew).alloc (Nat.le_refl _) _ | exact ((Below.refl _ _).alloc (Nat.le_refl _) _).alloc (by simp) _ | exact (((Below.refl _ _).alloc (Nat.le_refl _) _).alloc (by simp) _).drew | exact (((Below.refl _ _).alloc (Nat.le_refl _) _).alloc (by simp) _).alloc (by simp; omega) _) hb
                  try clear HBz
                  have HBz := HB.out.size
                  replace HB := Lib.hid (step_below HB.out hbs)
                  replace C := Lib.hid (C.out.below hbs C.out.lt)
                  replace K := Lib.hid (K.out.below hbs K.out.lt)
                  replace F := Lib.hid (F.out.below hbs F.out.lt)
                  replace PB := Lib.hid (PB.out.below hbs PB.out.lt)
                  clear hbs
                  rw [DV.out]
                  go_wp2_with fail
                  refine ⟨Mod.of_below hb, ?_⟩
                  clear hb
                  have r_C := C.out.row
                  have o_C := C.out.open
                  have l_C := C.out.lt
                  have c_C := C.out.cell
                  have z_C := C.out.frozen
                  have r_K := K.out.row
                  have o_K := K.out.open
                  have l_K := K.out.lt
                  have c_K := K.out.cell
                  have z_K := K.out.frozen
                  have r_F := F.out.row
                  have o_F := F.out.open
                  have l_F := F.out.lt
                  have c_F := F.out.cell
                  have z_F := F.out.frozen
                  have r_PB := PB.out.row
                  have o_PB := PB.out.open
                  have l_PB := PB.out.lt
                  have c_PB := PB.out.cell
                  have z_PB := PB.out.frozen
                  repeat (first
                    | (refine sq_yes rfl (by rfl) (fun w' hM => by ((try replace hM := hM.of_drew); obtain ⟨hR1, hR2, hR3⟩ := hM.rules; clear hM; go_simp; with_reducible rfl)) ?_; simp only [Act.put, List.setIfInBounds_toArray, List.set_cons_zero, List.set_cons_succ])
                    | (refine sq_no rfl (by rfl) ?_; simp only [Act.put, List.setIfInBounds_toArray, List.set_cons_zero, List.set_cons_succ]))
                  clear r_C o_C l_C c_C z_C r_K o_K l_K c_K z_K r_F o_F l_F c_F z_F r_PB o_PB l_PB c_PB z_PB
                  refine sq_do_yes rfl (by rfl) (fun K_ hK_ => ?_)
                  go_wp2_with fail
                  refine (refDigest_any cy k _ dg.out.1 dg.out.2).mono ?_
                  rintro e w21 ⟨rfl, hb⟩
                  have hbs : Below w20.heap.size w20 w21 := step_below (by first | exact Below.refl _ _ | exact (Below.refl _ _).drew | exact (Below.refl _ _).alloc (Nat.le_refl _) _ | exact ((Below.refl _ _).alloc (Nat.le_refl _) _).drew | exact ((Below.refl _ _).drew).alloc (Nat.le_refl _) _ | exact ((Below.refl _ _).alloc (Nat.le_refl _) _).alloc (by simp) _ | exact (((Below.refl _ _).alloc (Nat.le_refl _) _).alloc (by simp) _).drew | exact (((Below.refl _ _).alloc (Nat.le_refl _) _).alloc (by simp) _).alloc (by simp; omega) _) hb
                  try clear HBz
                  have HBz := HB.out.size
                  replace HB := Lib.hid (step_below HB.out hbs)
                  replace C := Lib.hid (C.out.below hbs C.out.lt)
                  replace K := Lib.hid (K.out.below hbs K.out.lt)
                  replace F := Lib.hid (F.out.below hbs F.out.lt)
                  replace PB := Lib.hid (PB.out.below hbs PB.out.lt)
                  clear hbs
                  rw [DV.out]
                  go_wp2_with fail
                  refine ⟨Mod.of_below hb, ?_⟩
                  clear hb
                  have r_C := C.out.row
                  have o_C := C.out.open
                  have l_C := C.out.lt
                  have c_C := C.out.cell
                  have z_C := C.out.frozen
                  have r_K := K.out.row
                  have o_K := K.out.open
                  have l_K := K.out.lt
                  have c_K := K.out.cell
                  have z_K := K.out.frozen
                  have r_F := F.out.row
                  have o_F := F.out.open
                  have l_F := F.out.lt
                  have c_F := F.out.cell
                  have z_F := F.out.frozen
                  have r_PB := PB.out.row
                  have o_PB := PB.out.open
                  have l_PB := PB.out.lt
                  have c_PB := PB.out.cell
                  have z_PB := PB.out.frozen
                  repeat (first
                    | (refine sq_yes rfl (by rfl) (fun w' hM => by ((try replace hM := hM.of_drew); obtain ⟨hR1, hR2, hR3⟩ := hM.rules; clear hM; go_simp; with_reducible rfl)) ?_; simp only [Act.put, List.setIfInBounds_toArray, List.set_cons_zero, List.set_cons_succ])
                    | (refine sq_no rfl (by rfl) ?_; simp only [Act.put, List.setIfInBounds_toArray, List.set_cons_zero, List.set_cons_succ]))
                  clear r_C o_C l_C c_C z_C r_K o_K l_K c_K z_K r_F o_F l_F c_F z_F r_PB o_PB l_PB c_PB z_PB
                  refine sq_do_yes rfl (by rfl) (fun K_ hK_ => ?_)
                  go_wp2_with fail
                  refine (bits_any gf cy k _ F.out e5.1 e5.2 e7).mono ?_
                  rintro e w22 ⟨v, rfl, ho, hb⟩
                  have hbs : Below w21.heap.size w21 w22 := step_below (by first | exact Below.refl _ _ | exact (Below.refl _ _).drew | exact (Below.refl _ _).alloc (Nat.le_refl _) _ | exact ((Below.refl _ _).alloc (Nat.le_refl _) _).drew | exact ((Below.refl _ _).drew).alloc (Nat.le_refl _) _ | exact ((Below.refl _ _).alloc (Nat.le_refl _) _).alloc (by simp) _ | exact (((Below.refl _ _).alloc (Nat.le_refl _) _).alloc (by simp) _).drew | exact (((Below.refl _ _).alloc (Nat.le_refl _) _).alloc (by simp) _).alloc (by simp; omega) _) hb
                  try clear HBz
                  have HBz := HB.out.size
                  replace HB := Lib.hid (step_below HB.out hbs)
                  replace C := Lib.hid (C.out.below hbs C.out.lt)
                  replace K := Lib.hid (K.out.below hbs K.out.lt)
                  replace F := Lib.hid (F.out.below hbs F.out.lt)
                  replace PB := Lib.hid (PB.out.below hbs PB.out.lt)
                  clear hbs
                  obtain ⟨b3, m3, q3, rfl, hm3, hy3, _⟩ := ho.parts
                  have Z3 := Lib.hid hy3
                  have M3 : m3 ≤ 1000000 := by have := HBL.out; omega
                  clear hm3 ho hy3
                  go_wp2_with fail
                  refine ⟨Mod.of_below hb, ?_⟩
                  clear hb
                  have r_C := C.out.row
                  have o_C := C.out.open
                  have l_C := C.out.lt
                  have c_C := C.out.cell
                  have z_C := C.out.frozen
                  have r_K := K.out.row
                  have o_K := K.out.open
                  have l_K := K.out.lt
                  have c_K := K.out.cell
                  have z_K := K.out.frozen
                  have r_F := F.out.row
                  have o_F := F.out.open
                  have l_F := F.out.lt
                  have c_F := F.out.cell
                  have z_F := F.out.frozen
                  have r_PB := PB.out.row
                  have o_PB := PB.out.open
                  have l_PB := PB.out.lt
                  have c_PB := PB.out.cell
                  have z_PB := PB.out.frozen
                  repeat (first
                    | (refine sq_yes rfl (by rfl) (fun w' hM => by ((try replace hM := hM.of_drew); obtain ⟨hR1, hR2, hR3⟩ := hM.rules; clear hM; go_simp; with_reducible rfl)) ?_; simp only [Act.put, List.setIfInBounds_toArray, List.set_cons_zero, List.set_cons_succ])
                    | (refine sq_no rfl (by rfl) ?_; simp only [Act.put, List.setIfInBounds_toArray, List.set_cons_zero, List.set_cons_succ]))
                  clear r_C o_C l_C c_C z_C r_K o_K l_K c_K z_K r_F o_F l_F c_F z_F r_PB o_PB l_PB c_PB z_PB
                  refine sq_do_yes rfl (by rfl) (fun K_ hK_ => ?_)
                  go_wp2_with fail
                  refine (refBits_any cy k _ e5.1 e5.2 e7).mono ?_
                  rintro e w23 ⟨v, rfl, ho, hb⟩
                  have hbs : Below w22.heap.size w22 w23 := step_below (by first | exact Below.refl _ _ | exact (Below.refl _ _).drew | exact (Below.refl _ _).alloc (Nat.le_refl _) _ | exact ((Below.refl _ _).alloc (Nat.le_refl _) _).drew | exact ((Below.refl _ _).drew).alloc (Nat.le_refl _) _ | exact ((Below.refl _ _).alloc (Nat.le_refl _) _).alloc (by simp) _ | exact (((Below.refl _ _).alloc (Nat.le_refl _) _).alloc (by simp) _).drew | exact (((Below.refl _ _).alloc (Nat.le_refl _) _).alloc (by simp) _).alloc (by simp; omega) _) hb
                  try clear HBz
                  have HBz := HB.out.size
                  replace HB := Lib.hid (step_below HB.out hbs)
                  replace C := Lib.hid (C.out.below hbs C.out.lt)
                  replace K := Lib.hid (K.out.below hbs K.out.lt)
                  replace F := Lib.hid (F.out.below hbs F.out.lt)
                  replace PB := Lib.hid (PB.out.below hbs PB.out.lt)
                  replace Z3 := Lib.hid (Z3.out.below hbs)
                  clear hbs
                  obtain ⟨b4, m4, q4, rfl, hm4, hy4, _⟩ := ho.parts
                  have Z4 := Lib.hid hy4
                  have M4 : m4 ≤ 1000000 := by have := HBL.out; omega
                  clear hm4 ho hy4
                  go_wp2_with fail
                  refine ⟨Mod.of_below hb, ?_⟩
                  clear hb
                  have r_C := C.out.row
                  have o_C := C.out.open
                  have l_C := C.out.lt
                  have c_C := C.out.cell
                  have z_C := C.out.frozen
                  have r_K := K.out.row
                  have o_K := K.out.open
                  have l_K := K.out.lt
                  have c_K := K.out.cell
                  have z_K := K.out.frozen
                  have r_F := F.out.row
                  have o_F := F.out.open
                  have l_F := F.out.lt
                  have c_F := F.out.cell
                  have z_F := F.out.frozen
                  have r_PB := PB.out.row
                  have o_PB := PB.out.open
                  have l_PB := PB.out.lt
                  have c_PB := PB.out.cell
                  have z_PB := PB.out.frozen
                  repeat (first
                    | (refine sq_yes rfl (by rfl) (fun w' hM => by ((try replace hM := hM.of_drew); obtain ⟨hR1, hR2, hR3⟩ := hM.rules; clear hM; go_simp; with_reducible rfl)) ?_; simp only [Act.put, List.setIfInBounds_toArray, List.set_cons_zero, List.set_cons_succ])
                    | (refine sq_no rfl (by rfl) ?_; simp only [Act.put, List.setIfInBounds_toArray, List.set_cons_zero, List.set_cons_succ]))
                  clear r_C o_C l_C c_C z_C r_K o_K l_K c_K z_K r_F o_F l_F c_F z_F r_PB o_PB l_PB c_PB z_PB
                  refine sq_do_yes rfl (by rfl) (fun K_ hK_ => ?_)
                  go_wp2_with fail
                  refine (ints_any b3 m3 q3 _ b4 m4 q4 _ _ Z3.out Z4.out M3 M4).mono ?_
                  rintro e w24 ⟨rfl, hb⟩
                  have hbs : Below w23.heap.size w23 w24 := step_below (by first | exact Below.refl _ _ | exact (Below.refl _ _).drew | exact (Below.refl _ _).alloc (Nat.le_refl _) _ | exact ((Below.refl _ _).alloc (Nat.le_refl _) _).drew | exact ((Below.refl _ _).drew).alloc (Nat.le_refl _) _ | exact ((Below.refl _ _).alloc (Nat.le_refl _) _).alloc (by simp) _ | exact (((Below.refl _ _).alloc (Nat.le_refl _) _).alloc (by simp) _).drew | exact (((Below.refl _ _).alloc (Nat.le_refl _) _).alloc (by simp) _).alloc (by simp; omega) _) hb
                  try clear HBz
                  have HBz := HB.out.size
                  replace HB := Lib.hid (step_below HB.out hbs)
                  replace C := Lib.hid (C.out.below hbs C.out.lt)
                  replace K := Lib.hid (K.out.below hbs K.out.lt)
                  replace F := Lib.hid (F.out.below hbs F.out.lt)
                  replace PB := Lib.hid (PB.out.below hbs PB.out.lt)
                  replace Z3 := Lib.hid (Z3.out.below hbs)
                  replace Z4 := Lib.hid (Z4.out.below hbs)
                  clear hbs
                  rw [BE.out]
                  go_wp2_with fail
                  refine ⟨Mod.of_below hb, ?_⟩
                  clear hb
                  have r_C := C.out.row
                  have o_C := C.out.open
                  have l_C := C.out.lt
                  have c_C := C.out.cell
                  have z_C := C.out.frozen
                  have r_K := K.out.row
                  have o_K := K.out.open
                  have l_K := K.out.lt
                  have c_K := K.out.cell
                  have z_K := K.out.frozen
                  have r_F := F.out.row
                  have o_F := F.out.open
                  have l_F := F.out.lt
                  have c_F := F.out.cell
                  have z_F := F.out.frozen
                  have r_PB := PB.out.row
                  have o_PB := PB.out.open
                  have l_PB := PB.out.lt
                  have c_PB := PB.out.cell
                  have z_PB := PB.out.frozen
                  repeat (first
                    | (refine sq_yes rfl (by rfl) (fun w' hM => by ((try replace hM := hM.of_drew); obtain ⟨hR1, hR2, hR3⟩ := hM.rules; clear hM; go_simp; with_reducible rfl)) ?_; simp only [Act.put, List.setIfInBounds_toArray, List.set_cons_zero, List.set_cons_succ])
                    | (refine sq_no rfl (by rfl) ?_; simp only [Act.put, List.setIfInBounds_toArray, List.set_cons_zero, List.set_cons_succ]))
                  clear r_C o_C l_C c_C z_C r_K o_K l_K c_K z_K r_F o_F l_F c_F z_F r_PB o_PB l_PB c_PB z_PB
                  refine sq_do_yes rfl (by rfl) (fun K_ hK_ => ?_)
                  go_wp2_with fail
                  refine (slot_any gf cy k n _ F.out).mono ?_
                  rintro e w25 ⟨rfl, hb⟩
                  have hbs : Below w24.heap.size w24 w25 := step_below (by first | exact Below.refl _ _ | exact (Below.refl _ _).drew | exact (Below.refl _ _).alloc (Nat.le_refl _) _ | exact ((Below.refl _ _).alloc (Nat.le_refl _) _).drew | exact ((Below.refl _ _).drew).alloc (Nat.le_refl _) _ | exact ((Below.refl _ _).alloc (Nat.le_refl _) _).alloc (by simp) _ | exact (((Below.refl _ _).alloc (Nat.le_refl _) _).alloc (by simp) _).drew | exact (((Below.refl _ _).alloc (Nat.le_refl _) _).alloc (by simp) _).alloc (by simp; omega) _) hb
                  try clear HBz
                  have HBz := HB.out.size
                  replace HB := Lib.hid (step_below HB.out hbs)
                  replace C := Lib.hid (C.out.below hbs C.out.lt)
                  replace K := Lib.hid (K.out.below hbs K.out.lt)
                  replace F := Lib.hid (F.out.below hbs F.out.lt)
                  replace PB := Lib.hid (PB.out.below hbs PB.out.lt)
                  replace Z3 := Lib.hid (Z3.out.below hbs)
                  replace Z4 := Lib.hid (Z4.out.below hbs)
                  clear hbs
                  rw [SL.out]
                  go_wp2_with fail
                  refine ⟨Mod.of_below hb, ?_⟩
                  clear hb
                  have r_C := C.out.row
                  have o_C := C.out.open
                  have l_C := C.out.lt
                  have c_C := C.out.cell
                  have z_C := C.out.frozen
                  have r_K := K.out.row
                  have o_K := K.out.open
                  have l_K := K.out.lt
                  have c_K := K.out.cell
                  have z_K := K.out.frozen
                  have r_F := F.out.row
                  have o_F := F.out.open
                  have l_F := F.out.lt
                  have c_F := F.out.cell
                  have z_F := F.out.frozen
                  have r_PB := PB.out.row
                  have o_PB := PB.out.open
                  have l_PB := PB.out.lt
                  have c_PB := PB.out.cell
                  have z_PB := PB.out.frozen
                  repeat (first
                    | (refine sq_yes rfl (by rfl) (fun w' hM => by ((try replace hM := hM.of_drew); obtain ⟨hR1, hR2, hR3⟩ := hM.rules; clear hM; go_simp; with_reducible rfl)) ?_; simp only [Act.put, List.setIfInBounds_toArray, List.set_cons_zero, List.set_cons_succ])
                    | (refine sq_no rfl (by rfl) ?_; simp only [Act.put, List.setIfInBounds_toArray, List.set_cons_zero, List.set_cons_succ]))
                  clear r_C o_C l_C c_C z_C r_K o_K l_K c_K z_K r_F o_F l_F c_F z_F r_PB o_PB l_PB c_PB z_PB
                  refine sq_do_yes rfl (by rfl) (fun K_ hK_ => ?_)
                  go_wp2_with fail
                  refine (refSlot_any cy k n _ HNW.out).mono ?_
                  rintro e w26 ⟨rfl, hb⟩
                  have hbs : Below w25.heap.size w25 w26 := step_below (by first | exact Below.refl _ _ | exact (Below.refl _ _).drew | exact (Below.refl _ _).alloc (Nat.le_refl _) _ | exact ((Below.refl _ _).alloc (Nat.le_refl _) _).drew | exact ((Below.refl _ _).drew).alloc (Nat.le_refl _) _ | exact ((Below.refl _ _).alloc (Nat.le_refl _) _).alloc (by simp) _ | exact (((Below.refl _ _).alloc (Nat.le_refl _) _).alloc (by simp) _).drew | exact (((Below.refl _ _).alloc (Nat.le_refl _) _).alloc (by simp) _).alloc (by simp; omega) _) hb
                  try clear HBz
                  have HBz := HB.out.size
                  replace HB := Lib.hid (step_below HB.out hbs)
                  replace C := Lib.hid (C.out.below hbs C.out.lt)
                  replace K := Lib.hid (K.out.below hbs K.out.lt)
                  replace F := Lib.hid (F.out.below hbs F.out.lt)
                  replace PB := Lib.hid (PB.out.below hbs PB.out.lt)
                  replace Z3 := Lib.hid (Z3.out.below hbs)
                  replace Z4 := Lib.hid (Z4.out.below hbs)
                  clear hbs
                  rw [SL.out]
                  go_wp2_with fail
                  refine ⟨Mod.of_below hb, ?_⟩
                  clear hb
                  have r_C := C.out.row
                  have o_C := C.out.open
                  have l_C := C.out.lt
                  have c_C := C.out.cell
                  have z_C := C.out.frozen
                  have r_K := K.out.row
                  have o_K := K.out.open
                  have l_K := K.out.lt
                  have c_K := K.out.cell
                  have z_K := K.out.frozen
                  have r_F := F.out.row
                  have o_F := F.out.open
                  have l_F := F.out.lt
                  have c_F := F.out.cell
                  have z_F := F.out.frozen
                  have r_PB := PB.out.row
                  have o_PB := PB.out.open
                  have l_PB := PB.out.lt
                  have c_PB := PB.out.cell
                  have z_PB := PB.out.frozen
                  repeat (first
                    | (refine sq_yes rfl (by rfl) (fun w' hM => by ((try replace hM := hM.of_drew); obtain ⟨hR1, hR2, hR3⟩ := hM.rules; clear hM; go_simp; with_reducible rfl)) ?_; simp only [Act.put, List.setIfInBounds_toArray, List.set_cons_zero, List.set_cons_succ])
                    | (refine sq_no rfl (by rfl) ?_; simp only [Act.put, List.setIfInBounds_toArray, List.set_cons_zero, List.set_cons_succ]))
                  clear r_C o_C l_C c_C z_C r_K o_K l_K c_K z_K r_F o_F l_F c_F z_F r_PB o_PB l_PB c_PB z_PB
                  refine sq_end ?_
                  
                  go_wp2_with fail
                  go_meet
                  exact ⟨rfl, C.out, K.out, F.out, PB.out, HB.out⟩
                  
                · have tt := trivial
                  
                  have r_C := C.out.row
                  have o_C := C.out.open
                  have l_C := C.out.lt
                  have c_C := C.out.cell
                  have z_C := C.out.frozen
                  have r_K := K.out.row
                  have o_K := K.out.open
                  have l_K := K.out.lt
                  have c_K := K.out.cell
                  have z_K := K.out.frozen
                  have r_F := F.out.row
                  have o_F := F.out.open
                  have l_F := F.out.lt
                  have c_F := F.out.cell
                  have z_F := F.out.frozen
                  have r_PB := PB.out.row
                  have o_PB := PB.out.open
                  have l_PB := PB.out.lt
                  have c_PB := PB.out.cell
                  have z_PB := PB.out.frozen
                  refine region_sq (fun _ => False) [(0, true), (1, true), (2, true), (3, true), (4, true), (5, true), (6, true), (7, true), (8, true), (9, true), (10, false), (11, true), (12, true), (13, true), (14, true), (15, true), (16, true), (18, true), (19, true), (17, false), (20, false), (21, true), (22, true), (23, true), (24, true), (25, true), (27, true), (28, true), (26, false), (29, false), (30, false), (31, true), (32, true), (33, true), (34, true), (35, true), (36, true), (38, true), (39, true), (40, true), (37, false), (41, false), (42, true), (43, true)] (by kernel_rfl) (by kernel_rfl) (fun _ _ d _ _ h => by cases d <;> exact h) ?_
                  repeat (first
                    | (refine sq_yes rfl (by rfl) (fun w' hM => by ((try replace hM := hM.of_drew); obtain ⟨hR1, hR2, hR3⟩ := hM.rules; clear hM; go_simp; with_reducible rfl)) ?_; simp only [Act.put, List.setIfInBounds_toArray, List.set_cons_zero, List.set_cons_succ])
                    | (refine sq_no rfl (by rfl) ?_; simp only [Act.put, List.setIfInBounds_toArray, List.set_cons_zero, List.set_cons_succ]))
                  clear r_C o_C l_C c_C z_C r_K o_K l_K c_K z_K r_F o_F l_F c_F z_F r_PB o_PB l_PB c_PB z_PB
                  replace C := Lib.hid C.out.drew
                  replace K := Lib.hid K.out.drew
                  replace F := Lib.hid F.out.drew
                  replace PB := Lib.hid PB.out.drew
                  replace HB := Lib.hid HB.out.drew
                  generalize wc.drew = w27 at *
                  refine sq_do_no rfl (by rfl) ?_
                  simp only [Act.put, List.setIfInBounds_toArray, List.set_cons_zero, List.set_cons_succ]
                  have r_C := C.out.row
                  have o_C := C.out.open
                  have l_C := C.out.lt
                  have c_C := C.out.cell
                  have z_C := C.out.frozen
                  have r_K := K.out.row
                  have o_K := K.out.open
                  have l_K := K.out.lt
                  have c_K := K.out.cell
                  have z_K := K.out.frozen
                  have r_F := F.out.row
                  have o_F := F.out.open
                  have l_F := F.out.lt
                  have c_F := F.out.cell
                  have z_F := F.out.frozen
                  have r_PB := PB.out.row
                  have o_PB := PB.out.open
                  have l_PB := PB.out.lt
                  have c_PB := PB.out.cell
                  have z_PB := PB.out.frozen
                  repeat (first
                    | (refine sq_yes rfl (by rfl) (fun w' hM => by ((try replace hM := hM.of_drew); obtain ⟨hR1, hR2, hR3⟩ := hM.rules; clear hM; go_simp; with_reducible rfl)) ?_; simp only [Act.put, List.setIfInBounds_toArray, List.set_cons_zero, List.set_cons_succ])
                    | (refine sq_no rfl (by rfl) ?_; simp only [Act.put, List.setIfInBounds_toArray, List.set_cons_zero, List.set_cons_succ]))
                  clear r_C o_C l_C c_C z_C r_K o_K l_K c_K z_K r_F o_F l_F c_F z_F r_PB o_PB l_PB c_PB z_PB
                  refine sq_do_yes rfl (by rfl) (fun K_ hK_ => ?_)
                  go_wp2_with fail
                  refine (digest_any gf cy k _ F.out dg.out.1 dg.out.2).mono ?_
                  rintro e w28 ⟨rfl, hb⟩
                  have hbs : Below w27.heap.size w27 w28 := step_below (by first | exact Below.refl _ _ | exact (Below.refl _ _).drew | exact (Below.refl _ _).alloc (Nat.le_refl _) _ | exact ((Below.refl _ _).alloc (Nat.le_refl _) _).drew | exact ((Below.refl _ _).drew).alloc (Nat.le_refl _) _ | exact ((Below.refl _ _).alloc (Nat.le_refl _) _).alloc (by simp) _ | exact (((Below.refl _ _).alloc (Nat.le_refl _) _).alloc (by simp) _).drew | exact (((Below.refl _ _).alloc (Nat.le_refl _) _).alloc (by simp) _).alloc (by simp; omega) _) hb
                  try clear HBz
                  have HBz := HB.out.size
                  replace HB := Lib.hid (step_below HB.out hbs)
                  replace C := Lib.hid (C.out.below hbs C.out.lt)
                  replace K := Lib.hid (K.out.below hbs K.out.lt)
                  replace F := Lib.hid (F.out.below hbs F.out.lt)
                  replace PB := Lib.hid (PB.out.below hbs PB.out.lt)
                  clear hbs
                  rw [DV.out]
                  go_wp2_with fail
                  refine ⟨Mod.of_below hb, ?_⟩
                  clear hb
                  have r_C := C.out.row
                  have o_C := C.out.open
                  have l_C := C.out.lt
                  have c_C := C.out.cell
                  have z_C := C.out.frozen
                  have r_K := K.out.row
                  have o_K := K.out.open
                  have l_K := K.out.lt
                  have c_K := K.out.cell
                  have z_K := K.out.frozen
                  have r_F := F.out.row
                  have o_F := F.out.open
                  have l_F := F.out.lt
                  have c_F := F.out.cell
                  have z_F := F.out.frozen
                  have r_PB := PB.out.row
                  have o_PB := PB.out.open
                  have l_PB := PB.out.lt
                  have c_PB := PB.out.cell
                  have z_PB := PB.out.frozen
                  repeat (first
                    | (refine sq_yes rfl (by rfl) (fun w' hM => by ((try replace hM := hM.of_drew); obtain ⟨hR1, hR2, hR3⟩ := hM.rules; clear hM; go_simp; with_reducible rfl)) ?_; simp only [Act.put, List.setIfInBounds_toArray, List.set_cons_zero, List.set_cons_succ])
                    | (refine sq_no rfl (by rfl) ?_; simp only [Act.put, List.setIfInBounds_toArray, List.set_cons_zero, List.set_cons_succ]))
                  clear r_C o_C l_C c_C z_C r_K o_K l_K c_K z_K r_F o_F l_F c_F z_F r_PB o_PB l_PB c_PB z_PB
                  refine sq_do_yes rfl (by rfl) (fun K_ hK_ => ?_)
                  go_wp2_with fail
                  refine (refDigest_any cy k _ dg.out.1 dg.out.2).mono ?_
                  rintro e w29 ⟨rfl, hb⟩
                  have hbs : Below w28.heap.size w28 w29 := step_below (by first | exact Below.refl _ _ | exact (Below.refl _ _).drew | exact (Below.refl _ _).alloc (Nat.le_refl _) _ | exact ((Below.refl _ _).alloc (Nat.le_refl _) _).drew | exact ((Below.refl _ _).drew).alloc (Nat.le_refl _) _ | exact ((Below.refl _ _).alloc (Nat.le_refl _) _).alloc (by simp) _ | exact (((Below.refl _ _).alloc (Nat.le_refl _) _).alloc (by simp) _).drew | exact (((Below.refl _ _).alloc (Nat.le_refl _) _).alloc (by simp) _).alloc (by simp; omega) _) hb
                  try clear HBz
                  have HBz := HB.out.size
                  replace HB := Lib.hid (step_below HB.out hbs)
                  replace C := Lib.hid (C.out.below hbs C.out.lt)
                  replace K := Lib.hid (K.out.below hbs K.out.lt)
                  replace F := Lib.hid (F.out.below hbs F.out.lt)
                  replace PB := Lib.hid (PB.out.below hbs PB.out.lt)
                  clear hbs
                  rw [DV.out]
                  go_wp2_with fail
                  refine ⟨Mod.of_below hb, ?_⟩
                  clear hb
                  have r_C := C.out.row
                  have o_C := C.out.open
                  have l_C := C.out.lt
                  have c_C := C.out.cell
                  have z_C := C.out.frozen
                  have r_K := K.out.row
                  have o_K := K.out.open
                  have l_K := K.out.lt
                  have c_K := K.out.cell
                  have z_K := K.out.frozen
                  have r_F := F.out.row
                  have o_F := F.out.open
                  have l_F := F.out.lt
                  have c_F := F.out.cell
                  have z_F := F.out.frozen
                  have r_PB := PB.out.row
                  have o_PB := PB.out.open
                  have l_PB := PB.out.lt
                  have c_PB := PB.out.cell
                  have z_PB := PB.out.frozen
                  repeat (first
                    | (refine sq_yes rfl (by rfl) (fun w' hM => by ((try replace hM := hM.of_drew); obtain ⟨hR1, hR2, hR3⟩ := hM.rules; clear hM; go_simp; with_reducible rfl)) ?_; simp only [Act.put, List.setIfInBounds_toArray, List.set_cons_zero, List.set_cons_succ])
                    | (refine sq_no rfl (by rfl) ?_; simp only [Act.put, List.setIfInBounds_toArray, List.set_cons_zero, List.set_cons_succ]))
                  clear r_C o_C l_C c_C z_C r_K o_K l_K c_K z_K r_F o_F l_F c_F z_F r_PB o_PB l_PB c_PB z_PB
                  refine sq_do_yes rfl (by rfl) (fun K_ hK_ => ?_)
                  go_wp2_with fail
                  refine (bits_any gf cy k _ F.out e5.1 e5.2 e7).mono ?_
                  rintro e w30 ⟨v, rfl, ho, hb⟩
                  have hbs : Below w29.heap.size w29 w30 := step_below (by first | exact Below.refl _ _ | exact (Below.refl _ _).drew | exact (Below.refl _ _).alloc (Nat.le_refl _) _ | exact ((Below.refl _ _).alloc (Nat.le_refl _) _).drew | exact ((Below.refl _ _).drew).alloc (Nat.le_refl _) _ | exact ((Below.refl _ _).alloc (Nat.le_refl _) _).alloc (by simp) _ | exact (((Below.refl _ _).alloc (Nat.le_refl _) _).alloc (by simp) _).drew | exact (((Below.refl _ _).alloc (Nat.le_refl _) _).alloc (by simp) _).alloc (by simp; omega) _) hb
                  try clear HBz
                  have HBz := HB.out.size
                  replace HB := Lib.hid (step_below HB.out hbs)
                  replace C := Lib.hid (C.out.below hbs C.out.lt)
                  replace K := Lib.hid (K.out.below hbs K.out.lt)
                  replace F := Lib.hid (F.out.below hbs F.out.lt)
                  replace PB := Lib.hid (PB.out.below hbs PB.out.lt)
                  clear hbs
                  obtain ⟨b3, m3, q3, rfl, hm3, hy3, _⟩ := ho.parts
                  have Z3 := Lib.hid hy3
                  have M3 : m3 ≤ 1000000 := by have := HBL.out; omega
                  clear hm3 ho hy3
                  go_wp2_with fail
                  refine ⟨Mod.of_below hb, ?_⟩
                  clear hb
                  have r_C := C.out.row
                  have o_C := C.out.open
                  have l_C := C.out.lt
                  have c_C := C.out.cell
                  have z_C := C.out.frozen
                  have r_K := K.out.row
                  have o_K := K.out.open
                  have l_K := K.out.lt
                  have c_K := K.out.cell
                  have z_K := K.out.frozen
                  have r_F := F.out.row
                  have o_F := F.out.open
                  have l_F := F.out.lt
                  have c_F := F.out.cell
                  have z_F := F.out.frozen
                  have r_PB := PB.out.row
                  have o_PB := PB.out.open
                  have l_PB := PB.out.lt
                  have c_PB := PB.out.cell
                  have z_PB := PB.out.frozen
                  repeat (first
                    | (refine sq_yes rfl (by rfl) (fun w' hM => by ((try replace hM := hM.of_drew); obtain ⟨hR1, hR2, hR3⟩ := hM.rules; clear hM; go_simp; with_reducible rfl)) ?_; simp only [Act.put, List.setIfInBounds_toArray, List.set_cons_zero, List.set_cons_succ])
                    | (refine sq_no rfl (by rfl) ?_; simp only [Act.put, List.setIfInBounds_toArray, List.set_cons_zero, List.set_cons_succ]))
                  clear r_C o_C l_C c_C z_C r_K o_K l_K c_K z_K r_F o_F l_F c_F z_F r_PB o_PB l_PB c_PB z_PB
                  refine sq_do_yes rfl (by rfl) (fun K_ hK_ => ?_)
                  go_wp2_with fail
                  refine (refBits_any cy k _ e5.1 e5.2 e7).mono ?_
                  rintro e w31 ⟨v, rfl, ho, hb⟩
                  have hbs : Below w30.heap.size w30 w31 := step_below (by first | exact Below.refl _ _ | exact (Below.refl _ _).drew | exact (Below.refl _ _).alloc (Nat.le_refl _) _ | exact ((Below.refl _ _).alloc (Nat.le_refl _) _).drew | exact ((Below.refl _ _).drew).alloc (Nat.le_refl _) _ | exact ((Below.refl _ _).alloc (Nat.le_refl _) _).alloc (by simp) _ | exact (((Below.refl _ _).alloc (Nat.le_refl _) _).alloc (by simp) _).drew | exact (((Below.refl _ _).alloc (Nat.le_refl _) _).alloc (by simp) _).alloc (by simp; omega) _) hb
                  try clear HBz
                  have HBz := HB.out.size
                  replace HB := Lib.hid (step_below HB.out hbs)
                  replace C := Lib.hid (C.out.below hbs C.out.lt)
                  replace K := Lib.hid (K.out.below hbs K.out.lt)
                  replace F := Lib.hid (F.out.below hbs F.out.lt)
                  replace PB := Lib.hid (PB.out.below hbs PB.out.lt)
                  replace Z3 := Lib.hid (Z3.out.below hbs)
                  clear hbs
                  obtain ⟨b4, m4, q4, rfl, hm4, hy4, _⟩ := ho.parts
                  have Z4 := Lib.hid hy4
                  have M4 : m4 ≤ 1000000 := by have := HBL.out; omega
                  clear hm4 ho hy4
                  go_wp2_with fail
                  refine ⟨Mod.of_below hb, ?_⟩
                  clear hb
                  have r_C := C.out.row
                  have o_C := C.out.open
                  have l_C := C.out.lt
                  have c_C := C.out.cell
                  have z_C := C.out.frozen
                  have r_K := K.out.row
                  have o_K := K.out.open
                  have l_K := K.out.lt
                  have c_K := K.out.cell
                  have z_K := K.out.frozen
                  have r_F := F.out.row
                  have o_F := F.out.open
                  have l_F := F.out.lt
                  have c_F := F.out.cell
                  have z_F := F.out.frozen
                  have r_PB := PB.out.row
                  have o_PB := PB.out.open
                  have l_PB := PB.out.lt
                  have c_PB := PB.out.cell
                  have z_PB := PB.out.frozen
                  repeat (first
                    | (refine sq_yes rfl (by rfl) (fun w' hM => by ((try replace hM := hM.of_drew); obtain ⟨hR1, hR2, hR3⟩ := hM.rules; clear hM; go_simp; with_reducible rfl)) ?_; simp only [Act.put, List.setIfInBounds_toArray, List.set_cons_zero, List.set_cons_succ])
                    | (refine sq_no rfl (by rfl) ?_; simp only [Act.put, List.setIfInBounds_toArray, List.set_cons_zero, List.set_cons_succ]))
                  clear r_C o_C l_C c_C z_C r_K o_K l_K c_K z_K r_F o_F l_F c_F z_F r_PB o_PB l_PB c_PB z_PB
                  refine sq_do_yes rfl (by rfl) (fun K_ hK_ => ?_)
                  go_wp2_with fail
                  refine (ints_any b3 m3 q3 _ b4 m4 q4 _ _ Z3.out Z4.out M3 M4).mono ?_
                  rintro e w32 ⟨rfl, hb⟩
                  have hbs : Below w31.heap.size w31 w32 := step_below (by first | exact Below.refl _ _ | exact (Below.refl _ _).drew | exact (Below.refl _ _).alloc (Nat.le_refl _) _ | exact ((Below.refl _ _).alloc (Nat.le_refl _) _).drew | exact ((Below.refl _ _).drew).alloc (Nat.le_refl _) _ | exact ((Below.refl _ _).alloc (Nat.le_refl _) _).alloc (by simp) _ | exact (((Below.refl _ _).alloc (Nat.le_refl _) _).alloc (by simp) _).drew | exact (((Below.refl _ _).alloc (Nat.le_refl _) _).alloc (by simp) _).alloc (by simp; omega) _) hb
                  try clear HBz
                  have HBz := HB.out.size
                  replace HB := Lib.hid (step_below HB.out hbs)
                  replace C := Lib.hid (C.out.below hbs C.out.lt)
                  replace K := Lib.hid (K.out.below hbs K.out.lt)
                  replace F := Lib.hid (F.out.below hbs F.out.lt)
                  replace PB := Lib.hid (PB.out.below hbs PB.out.lt)
                  replace Z3 := Lib.hid (Z3.out.below hbs)
                  replace Z4 := Lib.hid (Z4.out.below hbs)
                  clear hbs
                  rw [BE.out]
                  go_wp2_with fail
                  refine ⟨Mod.of_below hb, ?_⟩
                  clear hb
                  have r_C := C.out.row
                  have o_C := C.out.open
                  have l_C := C.out.lt
                  have c_C := C.out.cell
                  have z_C := C.out.frozen
                  have r_K := K.out.row
                  have o_K := K.out.open
                  have l_K := K.out.lt
                  have c_K := K.out.cell
                  have z_K := K.out.frozen
                  have r_F := F.out.row
                  have o_F := F.out.open
                  have l_F := F.out.lt
                  have c_F := F.out.cell
                  have z_F := F.out.frozen
                  have r_PB := PB.out.row
                  have o_PB := PB.out.open
                  have l_PB := PB.out.lt
                  have c_PB := PB.out.cell
                  have z_PB := PB.out.frozen
                  repeat (first
                    | (refine sq_yes rfl (by rfl) (fun w' hM => by ((try replace hM := hM.of_drew); obtain ⟨hR1, hR2, hR3⟩ := hM.rules; clear hM; go_simp; with_reducible rfl)) ?_; simp only [Act.put, List.setIfInBounds_toArray, List.set_cons_zero, List.set_cons_succ])
                    | (refine sq_no rfl (by rfl) ?_; simp only [Act.put, List.setIfInBounds_toArray, List.set_cons_zero, List.set_cons_succ]))
                  clear r_C o_C l_C c_C z_C r_K o_K l_K c_K z_K r_F o_F l_F c_F z_F r_PB o_PB l_PB c_PB z_PB
                  refine sq_do_yes rfl (by rfl) (fun K_ hK_ => ?_)
                  go_wp2_with fail
                  refine (slot_any gf cy k n _ F.out).mono ?_
                  rintro e w33 ⟨rfl, hb⟩
                  have hbs : Below w32.heap.size w32 w33 := step_below (by first | exact Below.refl _ _ | exact (Below.refl _ _).drew | exact (Below.refl _ _).alloc (Nat.le_refl _) _ | exact ((Below.refl _ _).alloc (Nat.le_refl _) _).drew | exact ((Below.refl _ _).drew).alloc (Nat.le_refl _) _ | exact ((Below.refl _ _).alloc (Nat.le_refl _) _).alloc (by simp) _ | exact (((Below.refl _ _).alloc (Nat.le_refl _) _).alloc (by simp) _).drew | exact (((Below.refl _ _).alloc (Nat.le_refl _) _).alloc (by simp) _).alloc (by simp; omega) _) hb
                  try clear HBz
                  have HBz := HB.out.size
                  replace HB := Lib.hid (step_below HB.out hbs)
                  replace C := Lib.hid (C.out.below hbs C.out.lt)
                  replace K := Lib.hid (K.out.below hbs K.out.lt)
                  replace F := Lib.hid (F.out.below hbs F.out.lt)
                  replace PB := Lib.hid (PB.out.below hbs PB.out.lt)
                  replace Z3 := Lib.hid (Z3.out.below hbs)
                  replace Z4 := Lib.hid (Z4.out.below hbs)
                  clear hbs
                  rw [SL.out]
                  go_wp2_with fail
                  refine ⟨Mod.of_below hb, ?_⟩
                  clear hb
                  have r_C := C.out.row
                  have o_C := C.out.open
                  have l_C := C.out.lt
                  have c_C := C.out.cell
                  have z_C := C.out.frozen
                  have r_K := K.out.row
                  have o_K := K.out.open
                  have l_K := K.out.lt
                  have c_K := K.out.cell
                  have z_K := K.out.frozen
                  have r_F := F.out.row
                  have o_F := F.out.open
                  have l_F := F.out.lt
                  have c_F := F.out.cell
                  have z_F := F.out.frozen
                  have r_PB := PB.out.row
                  have o_PB := PB.out.open
                  have l_PB := PB.out.lt
                  have c_PB := PB.out.cell
                  have z_PB := PB.out.frozen
                  repeat (first
                    | (refine sq_yes rfl (by rfl) (fun w' hM => by ((try replace hM := hM.of_drew); obtain ⟨hR1, hR2, hR3⟩ := hM.rules; clear hM; go_simp; with_reducible rfl)) ?_; simp only [Act.put, List.setIfInBounds_toArray, List.set_cons_zero, List.set_cons_succ])
                    | (refine sq_no rfl (by rfl) ?_; simp only [Act.put, List.setIfInBounds_toArray, List.set_cons_zero, List.set_cons_succ]))
                  clear r_C o_C l_C c_C z_C r_K o_K l_K c_K z_K r_F o_F l_F c_F z_F r_PB o_PB l_PB c_PB z_PB
                  refine sq_do_yes rfl (by rfl) (fun K_ hK_ => ?_)
                  go_wp2_with fail
                  refine (refSlot_any cy k n _ HNW.out).mono ?_
                  rintro e w34 ⟨rfl, hb⟩
                  have hbs : Below w33.heap.size w33 w34 := step_below (by first | exact Below.refl _ _ | exact (Below.refl _ _).drew | exact (Below.refl _ _).alloc (Nat.le_refl _) _ | exact ((Below.refl _ _).alloc (Nat.le_refl _) _).drew | exact ((Below.refl _ _).drew).alloc (Nat.le_refl _) _ | exact ((Below.refl _ _).alloc (Nat.le_refl _) _).alloc (by simp) _ | exact (((Below.refl _ _).alloc (Nat.le_refl _) _).alloc (by simp) _).drew | exact (((Below.refl _ _).alloc (Nat.le_refl _) _).alloc (by simp) _).alloc (by simp; omega) _) hb
                  try clear HBz
                  have HBz := HB.out.size
                  replace HB := Lib.hid (step_below HB.out hbs)
                  replace C := Lib.hid (C.out.below hbs C.out.lt)
                  replace K := Lib.hid (K.out.below hbs K.out.lt)
                  replace F := Lib.hid (F.out.below hbs F.out.lt)
                  replace PB := Lib.hid (PB.out.below hbs PB.out.lt)
                  replace Z3 := Lib.hid (Z3.out.below hbs)
                  replace Z4 := Lib.hid (Z4.out.below hbs)
                  clear hbs
                  rw [SL.out]
                  go_wp2_with fail
                  refine ⟨Mod.of_below hb, ?_⟩
                  clear hb
                  have r_C := C.out.row
                  have o_C := C.out.open
                  have l_C := C.out.lt
                  have c_C := C.out.cell
                  have z_C := C.out.frozen
                  have r_K := K.out.row
                  have o_K := K.out.open
                  have l_K := K.out.lt
                  have c_K := K.out.cell
                  have z_K := K.out.frozen
                  have r_F := F.out.row
                  have o_F := F.out.open
                  have l_F := F.out.lt
                  have c_F := F.out.cell
                  have z_F := F.out.frozen
                  have r_PB := PB.out.row
                  have o_PB := PB.out.open
                  have l_PB := PB.out.lt
                  have c_PB := PB.out.cell
                  have z_PB := PB.out.frozen
                  repeat (first
                    | (refine sq_yes rfl (by rfl) (fun w' hM => by ((try replace hM := hM.of_drew); obtain ⟨hR1, hR2, hR3⟩ := hM.rules; clear hM; go_simp; with_reducible rfl)) ?_; simp only [Act.put, List.setIfInBounds_toArray, List.set_cons_zero, List.set_cons_succ])
                    | (refine sq_no rfl (by rfl) ?_; simp only [Act.put, List.setIfInBounds_toArray, List.set_cons_zero, List.set_cons_succ]))
                  clear r_C o_C l_C c_C z_C r_K o_K l_K c_K z_K r_F o_F l_F c_F z_F r_PB o_PB l_PB c_PB z_PB
                  refine sq_end ?_
                  
                  go_wp2_with fail
                  go_meet
                  exact ⟨rfl, C.out, K.out, F.out, PB.out, HB.out⟩
                  
            case rest =>
              clear HB C K F PB
              obtain ⟨rfl, hC_, hK_, hF_, hPB_, hBel_⟩ := hcut
              have C := Lib.hid hC_
              have K := Lib.hid hK_
              have F := Lib.hid hF_
              have PB := Lib.hid hPB_
              have HB := Lib.hid hBel_
              clear hC_ hK_ hF_ hPB_ hBel_
              clear HBL BE DV SL HPL HBT
              obtain ⟨N, hN⟩ : ∃ N, N = plN cy k := ⟨_, rfl⟩
              have hNk := plN_no cy k
              have hNy := plN_yes cy k
              rw [← hN] at hNk hNy
              have HNK := Lib.hid (show (kvld k = false → N = 0) ∧ (kvld k = true → N = S) from ⟨hNk, fun h => by rw [hNy h, HST.out]; rfl⟩)
              have KN := Lib.hid (show cutN (-1) (List.range (plN cy k)) = List.range N by rw [hN]; rfl)
              obtain ⟨N1, hN1⟩ : ∃ N1, N1 = min 1 N := ⟨_, rfl⟩
              have HN1 := Lib.hid hN1
              have KN1 := Lib.hid (show cutN 1 (List.range (plN cy k)) = List.range N1 by
                rw [← hN]; unfold cutN; rw [if_neg (by omega)]
                apply List.ext_getElem?
                intro i
                rw [show (1 : Int).toNat = 1 from rfl, List.getElem?_take]
                by_cases h1 : i < 1
                · rw [if_pos h1]
                  by_cases h2 : i < N
                  · rw [List.getElem?_range h2, List.getElem?_range (by omega)]
                  · rw [List.getElem?_eq_none (by rw [List.length_range]; omega), List.getElem?_eq_none (by rw [List.length_range]; omega)]
                · rw [if_neg h1, List.getElem?_eq_none (by rw [List.length_range]; omega)])
              clear hN hNk hNy hN1
              have r_C := C.out.row
              have o_C := C.out.open
              have l_C := C.out.lt
              have c_C := C.out.cell
              have z_C := C.out.frozen
              have r_K := K.out.row
              have o_K := K.out.open
              have l_K := K.out.lt
              have c_K := K.out.cell
              have z_K := K.out.frozen
              have r_F := F.out.row
              have o_F := F.out.open
              have l_F := F.out.lt
              have c_F := F.out.cell
              have z_F := F.out.frozen
              have r_PB := PB.out.row
              have o_PB := PB.out.open
              have l_PB := PB.out.lt
              have c_PB := PB.out.cell
              have z_PB := PB.out.frozen
              go_wp2_with fail
              clear r_C o_C l_C c_C z_C r_K o_K l_K c_K z_K r_F o_F l_F c_F z_F r_PB o_PB l_PB c_PB z_PB
              have r_C := C.out.row
              have o_C := C.out.open
              have l_C := C.out.lt
              have c_C := C.out.cell
              have z_C := C.out.frozen
              have r_K := K.out.row
              have o_K := K.out.open
              have l_K := K.out.lt
              have c_K := K.out.cell
              have z_K := K.out.frozen
              have r_F := F.out.row
              have o_F := F.out.open
              have l_F := F.out.lt
              have c_F := F.out.cell
              have z_F := F.out.frozen
              have r_PB := PB.out.row
              have o_PB := PB.out.open
              have l_PB := PB.out.lt
              have c_PB := PB.out.cell
              have z_PB := PB.out.frozen
              refine region_sq (fun _ => False) [(0, true), (1, true), (3, true), (4, true), (2, false), (5, false), (6, true), (7, true)] (by kernel_rfl) (by kernel_rfl) (fun _ _ d _ _ h => by cases d <;> exact h) ?_
              repeat (first
                | (refine sq_yes rfl (by rfl) (fun w' hM => by ((try replace hM := hM.of_drew); obtain ⟨hR1, hR2, hR3⟩ := hM.rules; clear hM; go_simp; with_reducible rfl)) ?_; simp only [Act.put, List.setIfInBounds_toArray, List.set_cons_zero, List.set_cons_succ])
                | (refine sq_no rfl (by rfl) ?_; simp only [Act.put, List.setIfInBounds_toArray, List.set_cons_zero, List.set_cons_succ]))
              clear r_C o_C l_C c_C z_C r_K o_K l_K c_K z_K r_F o_F l_F c_F z_F r_PB o_PB l_PB c_PB z_PB
              replace C := Lib.hid C.out.drew
              replace K := Lib.hid K.out.drew
              replace F := Lib.hid F.out.drew
              replace PB := Lib.hid PB.out.drew
              replace HB := Lib.hid HB.out.drew
              generalize wc.drew = w35 at *
              refine sq_do_yes rfl (by rfl) (fun K_ hK_ => ?_)
              go_wp2_with fail
              refine (all_pl gf cy k (-1) N _ F.out e1 e2 KN.out).mono ?_
              rintro e w36 ⟨b1, q1, rfl, hp, hb⟩
              have hbs : Below w35.heap.size w35 w36 := step_below (by first | exact Below.refl _ _ | exact (Below.refl _ _).drew | exact (Below.refl _ _).alloc (Nat.le_refl _) _ | exact ((Below.refl _ _).alloc (Nat.le_refl _) _).drew | exact ((Below.refl _ _).drew).alloc (Nat.le_refl _) _ | exact ((Below.refl _ _).alloc (Nat.le_refl _) _).alloc (by simp) _ | exact (((Below.refl _ _).alloc (Nat.le_refl _) _).alloc (by simp) _).drew | exact (((Below.refl _ _).alloc (Nat.le_refl _) _).alloc (by simp) _).alloc (by simp; omega) _) hb
              try clear HBz
              have HBz := HB.out.size
              replace HB := Lib.hid (step_below HB.out hbs)
              replace C := Lib.hid (C.out.below hbs C.out.lt)
              replace K := Lib.hid (K.out.below hbs K.out.lt)
              replace F := Lib.hid (F.out.below hbs F.out.lt)
              replace PB := Lib.hid (PB.out.below hbs PB.out.lt)
              clear hbs
              have X := Lib.hid hp
              clear hp
              go_wp2_with fail
              refine ⟨Mod.of_below hb, ?_⟩
              clear hb
              have r_C := C.out.row
              have o_C := C.out.open
              have l_C := C.out.lt
              have c_C := C.out.cell
              have z_C := C.out.frozen
              have r_K := K.out.row
              have o_K := K.out.open
              have l_K := K.out.lt
              have c_K := K.out.cell
              have z_K := K.out.frozen
              have r_F := F.out.row
              have o_F := F.out.open
              have l_F := F.out.lt
              have c_F := F.out.cell
              have z_F := F.out.frozen
              have r_PB := PB.out.row
              have o_PB := PB.out.open
              have l_PB := PB.out.lt
              have c_PB := PB.out.cell
              have z_PB := PB.out.frozen
              repeat (first
                | (refine sq_yes rfl (by rfl) (fun w' hM => by ((try replace hM := hM.of_drew); obtain ⟨hR1, hR2, hR3⟩ := hM.rules; clear hM; go_simp; with_reducible rfl)) ?_; simp only [Act.put, List.setIfInBounds_toArray, List.set_cons_zero, List.set_cons_succ])
                | (refine sq_no rfl (by rfl) ?_; simp only [Act.put, List.setIfInBounds_toArray, List.set_cons_zero, List.set_cons_succ]))
              clear r_C o_C l_C c_C z_C r_K o_K l_K c_K z_K r_F o_F l_F c_F z_F r_PB o_PB l_PB c_PB z_PB
              refine sq_do_yes rfl (by rfl) (fun K_ hK_ => ?_)
              go_wp2_with fail
              refine (all_pl gf cy k 1 N1 _ F.out e1 e2 KN1.out).mono ?_
              rintro e w37 ⟨b2, q2, rfl, hp, hb⟩
              have hbs : Below w36.heap.size w36 w37 := step_below (by first | exact Below.refl _ _ | exact (Below.refl _ _).drew | exact (Below.refl _ _).alloc (Nat.le_refl _) _ | exact ((Below.refl _ _).alloc (Nat.le_refl _) _).drew | exact ((Below.refl _ _).drew).alloc (Nat.le_refl _) _ | exact ((Below.refl _ _).alloc (Nat.le_refl _) _).alloc (by simp) _ | exact (((Below.refl _ _).alloc (Nat.le_refl _) _).alloc (by simp) _).drew | exact (((Below.refl _ _).alloc (Nat.le_refl _) _).alloc (by simp) _).alloc (by simp; omega) _) hb
              try clear HBz
              have HBz := HB.out.size
              replace HB := Lib.hid (step_below HB.out hbs)
              replace C := Lib.hid (C.out.below hbs C.out.lt)
              replace K := Lib.hid (K.out.below hbs K.out.lt)
              replace F := Lib.hid (F.out.below hbs F.out.lt)
              replace PB := Lib.hid (PB.out.below hbs PB.out.lt)
              replace X := Lib.hid (X.out.below hbs)
              clear hbs
              have Y := Lib.hid hp
              clear hp
              go_wp2_with fail
              refine ⟨Mod.of_below hb, ?_⟩
              clear hb
              have r_C := C.out.row
              have o_C := C.out.open
              have l_C := C.out.lt
              have c_C := C.out.cell
              have z_C := C.out.frozen
              have r_K := K.out.row
              have o_K := K.out.open
              have l_K := K.out.lt
              have c_K := K.out.cell
              have z_K := K.out.frozen
              have r_F := F.out.row
              have o_F := F.out.open
              have l_F := F.out.lt
              have c_F := F.out.cell
              have z_F := F.out.frozen
              have r_PB := PB.out.row
              have o_PB := PB.out.open
              have l_PB := PB.out.lt
              have c_PB := PB.out.cell
              have z_PB := PB.out.frozen
              repeat (first
                | (refine sq_yes rfl (by rfl) (fun w' hM => by ((try replace hM := hM.of_drew); obtain ⟨hR1, hR2, hR3⟩ := hM.rules; clear hM; go_simp; with_reducible rfl)) ?_; simp only [Act.put, List.setIfInBounds_toArray, List.set_cons_zero, List.set_cons_succ])
                | (refine sq_no rfl (by rfl) ?_; simp only [Act.put, List.setIfInBounds_toArray, List.set_cons_zero, List.set_cons_succ]))
              clear r_C o_C l_C c_C z_C r_K o_K l_K c_K z_K r_F o_F l_F c_F z_F r_PB o_PB l_PB c_PB z_PB
              refine sq_end ?_
              go_upto_region 21 with fail
              go_cut [162] (fun s162 wx => s162 = .bool false ∧ At wx gc 27 (cc cy) ∧ At wx gk 31 (kc k) ∧ At wx gf 139 (fc cy) ∧ At wx gp 41 (#[.int .i64 px, .int .i64 py]) ∧ Pls wx b1 N cy k ∧ Pls wx b2 N1 cy k ∧ Below w.heap.size w wx)
              case first =>
                as_aux_lemma =>
                  cases hk : kvld k
                  · have hn0 := HNK.out.1 hk
                    subst hn0
                    have hn1 : N1 = 0 := HN1.out
                    subst hn1
                    have HKV := Lib.hid hk
                    
                    have r_C := C.out.row
                    have o_C := C.out.open
                    have l_C := C.out.lt
                    have c_C := C.out.cell
                    have z_C := C.out.frozen
                    have r_K := K.out.row
                    have o_K := K.out.open
                    have l_K := K.out.lt
                    have c_K := K.out.cell
                    have z_K := K.out.frozen
                    have r_F := F.out.row
                    have o_F := F.out.open
                    have l_F := F.out.lt
                    have c_F := F.out.cell
                    have z_F := F.out.frozen
                    have r_PB := PB.out.row
                    have o_PB := PB.out.open
                    have l_PB := PB.out.lt
                    have c_PB := PB.out.cell
                    have z_PB := PB.out.frozen
                    refine region_sq (fun _ => False) [(0, true), (1, false), (2, true), (3, true), (4, true), (5, true), (6, true), (7, true), (8, true), (9, true), (10, true), (11, true), (12, true), (13, true), (14, true), (15, true), (16, true), (17, true), (18, true), (19, true), (20, true), (21, true), (22, true), (23, true), (24, true), (25, false), (26, true), (27, true), (28, true), (29, true), (30, true), (31, true), (32, true), (33, true), (34, true), (35, true)] (by kernel_rfl) (by kernel_rfl) (fun _ _ d _ _ h => by cases d <;> exact h) ?_
                    repeat (first
                      | (refine sq_yes rfl (by rfl) (fun w' hM => by ((try replace hM := hM.of_drew); obtain ⟨hR1, hR2, hR3⟩ := hM.rules; clear hM; go_simp; with_reducible rfl)) ?_; simp only [Act.put, List.setIfInBounds_toArray, List.set_cons_zero, List.set_cons_succ])
                      | (refine sq_no rfl (by rfl) ?_; simp only [Act.put, List.setIfInBounds_toArray, List.set_cons_zero, List.set_cons_succ]))
                    clear r_C o_C l_C c_C z_C r_K o_K l_K c_K z_K r_F o_F l_F c_F z_F r_PB o_PB l_PB c_PB z_PB
                    replace C := Lib.hid C.out.drew
                    replace K := Lib.hid K.out.drew
                    replace F := Lib.hid F.out.drew
                    replace PB := Lib.hid PB.out.drew
                    replace X := Lib.hid X.out.drew
                    replace Y := Lib.hid Y.out.drew
                    replace HB := Lib.hid HB.out.drew
                    generalize w37.drew = w38 at *
                    refine sq_do_yes rfl (by rfl) (fun K_ hK_ => ?_)
                    go_wp2_with fail
                    refine (refKvalid_any k _).mono ?_
                    rintro e w39 ⟨rfl, hb⟩
                    have hbs : Below w38.heap.size w38 w39 := step_below (by first | exact Below.refl _ _ | exact (Below.refl _ _).drew | exact (Below.refl _ _).alloc (Nat.le_refl _) _ | exact ((Below.refl _ _).alloc (Nat.le_refl _) _).drew | exact ((Below.refl _ _).drew).alloc (Nat.le_refl _) _ | exact ((Below.refl _ _).alloc (Nat.le_refl _) _).alloc (by simp) _ | exact (((Below.refl _ _).alloc (Nat.le_refl _) _).alloc (by simp) _).drew | exact (((Below.refl _ _).alloc (Nat.le_refl _) _).alloc (by simp) _).alloc (by simp; omega) _) hb
                    try clear HBz
                    have HBz := HB.out.size
                    replace HB := Lib.hid (step_below HB.out hbs)
                    replace C := Lib.hid (C.out.below hbs C.out.lt)
                    replace K := Lib.hid (K.out.below hbs K.out.lt)
                    replace F := Lib.hid (F.out.below hbs F.out.lt)
                    replace PB := Lib.hid (PB.out.below hbs PB.out.lt)
                    replace X := Lib.hid (X.out.below hbs)
                    replace Y := Lib.hid (Y.out.below hbs)
                    clear hbs
                    rw [HKV.out]
                    go_wp2_with fail
                    refine ⟨Mod.of_below hb, ?_⟩
                    clear hb
                    have r_C := C.out.row
                    have o_C := C.out.open
                    have l_C := C.out.lt
                    have c_C := C.out.cell
                    have z_C := C.out.frozen
                    have r_K := K.out.row
                    have o_K := K.out.open
                    have l_K := K.out.lt
                    have c_K := K.out.cell
                    have z_K := K.out.frozen
                    have r_F := F.out.row
                    have o_F := F.out.open
                    have l_F := F.out.lt
                    have c_F := F.out.cell
                    have z_F := F.out.frozen
                    have r_PB := PB.out.row
                    have o_PB := PB.out.open
                    have l_PB := PB.out.lt
                    have c_PB := PB.out.cell
                    have z_PB := PB.out.frozen
                    repeat (first
                      | (refine sq_yes rfl (by rfl) (fun w' hM => by ((try replace hM := hM.of_drew); obtain ⟨hR1, hR2, hR3⟩ := hM.rules; clear hM; go_simp; with_reducible rfl)) ?_; simp only [Act.put, List.setIfInBounds_toArray, List.set_cons_zero, List.set_cons_succ])
                      | (refine sq_no rfl (by rfl) ?_; simp only [Act.put, List.setIfInBounds_toArray, List.set_cons_zero, List.set_cons_succ]))
                    clear r_C o_C l_C c_C z_C r_K o_K l_K c_K z_K r_F o_F l_F c_F z_F r_PB o_PB l_PB c_PB z_PB
                    refine sq_do_yes rfl (by rfl) (fun K_ hK_ => ?_)
                    go_wp2_with fail
                    refine (refKvalid_any k _).mono ?_
                    rintro e w40 ⟨rfl, hb⟩
                    have hbs : Below w39.heap.size w39 w40 := step_below (by first | exact Below.refl _ _ | exact (Below.refl _ _).drew | exact (Below.refl _ _).alloc (Nat.le_refl _) _ | exact ((Below.refl _ _).alloc (Nat.le_refl _) _).drew | exact ((Below.refl _ _).drew).alloc (Nat.le_refl _) _ | exact ((Below.refl _ _).alloc (Nat.le_refl _) _).alloc (by simp) _ | exact (((Below.refl _ _).alloc (Nat.le_refl _) _).alloc (by simp) _).drew | exact (((Below.refl _ _).alloc (Nat.le_refl _) _).alloc (by simp) _).alloc (by simp; omega) _) hb
                    try clear HBz
                    have HBz := HB.out.size
                    replace HB := Lib.hid (step_below HB.out hbs)
                    replace C := Lib.hid (C.out.below hbs C.out.lt)
                    replace K := Lib.hid (K.out.below hbs K.out.lt)
                    replace F := Lib.hid (F.out.below hbs F.out.lt)
                    replace PB := Lib.hid (PB.out.below hbs PB.out.lt)
                    replace X := Lib.hid (X.out.below hbs)
                    replace Y := Lib.hid (Y.out.below hbs)
                    clear hbs
                    rw [HKV.out]
                    go_wp2_with fail
                    refine ⟨Mod.of_below hb, ?_⟩
                    clear hb
                    have r_C := C.out.row
                    have o_C := C.out.open
                    have l_C := C.out.lt
                    have c_C := C.out.cell
                    have z_C := C.out.frozen
                    have r_K := K.out.row
                    have o_K := K.out.open
                    have l_K := K.out.lt
                    have c_K := K.out.cell
                    have z_K := K.out.frozen
                    have r_F := F.out.row
                    have o_F := F.out.open
                    have l_F := F.out.lt
                    have c_F := F.out.cell
                    have z_F := F.out.frozen
                    have r_PB := PB.out.row
                    have o_PB := PB.out.open
                    have l_PB := PB.out.lt
                    have c_PB := PB.out.cell
                    have z_PB := PB.out.frozen
                    repeat (first
                      | (refine sq_yes rfl (by rfl) (fun w' hM => by ((try replace hM := hM.of_drew); obtain ⟨hR1, hR2, hR3⟩ := hM.rules; clear hM; go_simp; with_reducible rfl)) ?_; simp only [Act.put, List.setIfInBounds_toArray, List.set_cons_zero, List.set_cons_succ])
                      | (refine sq_no rfl (by rfl) ?_; simp only [Act.put, List.setIfInBounds_toArray, List.set_cons_zero, List.set_cons_succ]))
                    clear r_C o_C l_C c_C z_C r_K o_K l_K c_K z_K r_F o_F l_F c_F z_F r_PB o_PB l_PB c_PB z_PB
                    refine sq_end ?_
                    go_wp2_with fail
                    go_meet
                    exact ⟨rfl, C.out, K.out, F.out, PB.out, X.out, Y.out, HB.out⟩
                    
                  · have hn0 := HNK.out.2 hk
                    have hmin : N1 = 1 := by have := HN1.out; omega
                    subst hmin
                    have HKV := Lib.hid hk
                    have hcs := HST.out
                    have hns : ((N : Int) != (S : Int)) = false := by rw [hn0]; exact bne_self_eq_false _
                    obtain ⟨bx, hbx, lx, hx⟩ := X.out (by omega)
                    obtain ⟨by', hby, ly, hy⟩ := Y.out (by omega)
                    subst hbx
                    subst hby
                    obtain ⟨ix, hix⟩ : ∃ x, x = idx cy k 0 := ⟨_, rfl⟩
                    have HIX := Lib.hid hix.symm
                    have hn1 : 0 < N := by omega
                    have hn1z : (0 : Int) < (N : Int) := by omega
                    clear hx hy lx ly hix hk hn0
                    have hgp := guardP
                    have hnp := neqP
                    
                    have r_C := C.out.row
                    have o_C := C.out.open
                    have l_C := C.out.lt
                    have c_C := C.out.cell
                    have z_C := C.out.frozen
                    have r_K := K.out.row
                    have o_K := K.out.open
                    have l_K := K.out.lt
                    have c_K := K.out.cell
                    have z_K := K.out.frozen
                    have r_F := F.out.row
                    have o_F := F.out.open
                    have l_F := F.out.lt
                    have c_F := F.out.cell
                    have z_F := F.out.frozen
                    have r_PB := PB.out.row
                    have o_PB := PB.out.open
                    have l_PB := PB.out.lt
                    have c_PB := PB.out.cell
                    have z_PB := PB.out.frozen
                    refine region_sq (fun _ => False) [(0, true), (1, false), (2, true), (3, true), (4, true), (5, true), (6, true), (7, true), (8, true), (9, true), (10, true), (11, true), (12, true), (13, true), (14, true), (15, true), (16, true), (17, true), (18, true), (19, true), (20, true), (21, true), (22, true), (23, true), (24, true), (25, false), (26, true), (27, true), (28, true), (29, true), (30, true), (31, true), (32, true), (33, true), (34, true), (35, true)] (by kernel_rfl) (by kernel_rfl) (fun _ _ d _ _ h => by cases d <;> exact h) ?_
                    repeat (first
                      | (refine sq_yes rfl (by rfl) (fun w' hM => by ((try replace hM := hM.of_drew); obtain ⟨hR1, hR2, hR3⟩ := hM.rules; clear hM; go_simp; with_reducible rfl)) ?_; simp only [Act.put, List.setIfInBounds_toArray, List.set_cons_zero, List.set_cons_succ])
                      | (refine sq_no rfl (by rfl) ?_; simp only [Act.put, List.setIfInBounds_toArray, List.set_cons_zero, List.set_cons_succ]))
                    clear r_C o_C l_C c_C z_C r_K o_K l_K c_K z_K r_F o_F l_F c_F z_F r_PB o_PB l_PB c_PB z_PB
                    replace C := Lib.hid C.out.drew
                    replace K := Lib.hid K.out.drew
                    replace F := Lib.hid F.out.drew
                    replace PB := Lib.hid PB.out.drew
                    replace X := Lib.hid X.out.drew
                    replace Y := Lib.hid Y.out.drew
                    replace HB := Lib.hid HB.out.drew
                    generalize w37.drew = w41 at *
                    refine sq_do_yes rfl (by rfl) (fun K_ hK_ => ?_)
                    go_wp2_with fail
                    refine (refKvalid_any k _).mono ?_
                    rintro e w42 ⟨rfl, hb⟩
                    have hbs : Below w41.heap.size w41 w42 := step_below (by first | exact Below.refl _ _ | exact (Below.refl _ _).drew | exact (Below.refl _ _).alloc (Nat.le_refl _) _ | exact ((Below.refl _ _).alloc (Nat.le_refl _) _).drew | exact ((Below.refl _ _).drew).alloc (Nat.le_refl _) _ | exact ((Below.refl _ _).alloc (Nat.le_refl _) _).alloc (by simp) _ | exact (((Below.refl _ _).alloc (Nat.le_refl _) _).alloc (by simp) _).drew | exact (((Below.refl _ _).alloc (Nat.le_refl _) _).alloc (by simp) _).alloc (by simp; omega) _) hb
                    try clear HBz
                    have HBz := HB.out.size
                    replace HB := Lib.hid (step_below HB.out hbs)
                    replace C := Lib.hid (C.out.below hbs C.out.lt)
                    replace K := Lib.hid (K.out.below hbs K.out.lt)
                    replace F := Lib.hid (F.out.below hbs F.out.lt)
                    replace PB := Lib.hid (PB.out.below hbs PB.out.lt)
                    replace X := Lib.hid (X.out.below hbs)
                    replace Y := Lib.hid (Y.out.below hbs)
                    clear hbs
                    rw [HKV.out]
                    obtain ⟨lx, x0, x1⟩ := X.out.at0 hn1
                    obtain ⟨ly, y0, y1⟩ := Y.out.at0 (by omega)
                    rw [HIX.out] at x1 y1
                    go_wp2_with fail
                    refine ⟨Mod.of_below hb, ?_⟩
                    clear hb
                    have r_C := C.out.row
                    have o_C := C.out.open
                    have l_C := C.out.lt
                    have c_C := C.out.cell
                    have z_C := C.out.frozen
                    have r_K := K.out.row
                    have o_K := K.out.open
                    have l_K := K.out.lt
                    have c_K := K.out.cell
                    have z_K := K.out.frozen
                    have r_F := F.out.row
                    have o_F := F.out.open
                    have l_F := F.out.lt
                    have c_F := F.out.cell
                    have z_F := F.out.frozen
                    have r_PB := PB.out.row
                    have o_PB := PB.out.open
                    have l_PB := PB.out.lt
                    have c_PB := PB.out.cell
                    have z_PB := PB.out.frozen
                    repeat (first
                      | (refine sq_yes rfl (by rfl) (fun w' hM => by ((try replace hM := hM.of_drew); obtain ⟨hR1, hR2, hR3⟩ := hM.rules; clear hM; go_simp; with_reducible rfl)) ?_; simp only [Act.put, List.setIfInBounds_toArray, List.set_cons_zero, List.set_cons_succ])
                      | (refine sq_no rfl (by rfl) ?_; simp only [Act.put, List.setIfInBounds_toArray, List.set_cons_zero, List.set_cons_succ]))
                    clear r_C o_C l_C c_C z_C r_K o_K l_K c_K z_K r_F o_F l_F c_F z_F r_PB o_PB l_PB c_PB z_PB
                    refine sq_do_yes rfl (by rfl) (fun K_ hK_ => ?_)
                    go_wp2_with fail
                    refine (refKvalid_any k _).mono ?_
                    rintro e w43 ⟨rfl, hb⟩
                    have hbs : Below w42.heap.size w42 w43 := step_below (by first | exact Below.refl _ _ | exact (Below.refl _ _).drew | exact (Below.refl _ _).alloc (Nat.le_refl _) _ | exact ((Below.refl _ _).alloc (Nat.le_refl _) _).drew | exact ((Below.refl _ _).drew).alloc (Nat.le_refl _) _ | exact ((Below.refl _ _).alloc (Nat.le_refl _) _).alloc (by simp) _ | exact (((Below.refl _ _).alloc (Nat.le_refl _) _).alloc (by simp) _).drew | exact (((Below.refl _ _).alloc (Nat.le_refl _) _).alloc (by simp) _).alloc (by simp; omega) _) hb
                    try clear HBz
                    have HBz := HB.out.size
                    replace HB := Lib.hid (step_below HB.out hbs)
                    replace C := Lib.hid (C.out.below hbs C.out.lt)
                    replace K := Lib.hid (K.out.below hbs K.out.lt)
                    replace F := Lib.hid (F.out.below hbs F.out.lt)
                    replace PB := Lib.hid (PB.out.below hbs PB.out.lt)
                    replace X := Lib.hid (X.out.below hbs)
                    replace Y := Lib.hid (Y.out.below hbs)
                    clear hbs
                    rw [HKV.out]
                    go_wp2_with fail
                    refine ⟨Mod.of_below hb, ?_⟩
                    clear hb
                    have r_C := C.out.row
                    have o_C := C.out.open
                    have l_C := C.out.lt
                    have c_C := C.out.cell
                    have z_C := C.out.frozen
                    have r_K := K.out.row
                    have o_K := K.out.open
                    have l_K := K.out.lt
                    have c_K := K.out.cell
                    have z_K := K.out.frozen
                    have r_F := F.out.row
                    have o_F := F.out.open
                    have l_F := F.out.lt
                    have c_F := F.out.cell
                    have z_F := F.out.frozen
                    have r_PB := PB.out.row
                    have o_PB := PB.out.open
                    have l_PB := PB.out.lt
                    have c_PB := PB.out.cell
                    have z_PB := PB.out.frozen
                    repeat (first
                      | (refine sq_yes rfl (by rfl) (fun w' hM => by ((try replace hM := hM.of_drew); obtain ⟨hR1, hR2, hR3⟩ := hM.rules; clear hM; go_simp; with_reducible rfl)) ?_; simp only [Act.put, List.setIfInBounds_toArray, List.set_cons_zero, List.set_cons_succ])
                      | (refine sq_no rfl (by rfl) ?_; simp only [Act.put, List.setIfInBounds_toArray, List.set_cons_zero, List.set_cons_succ]))
                    clear r_C o_C l_C c_C z_C r_K o_K l_K c_K z_K r_F o_F l_F c_F z_F r_PB o_PB l_PB c_PB z_PB
                    refine sq_end ?_
                    go_wp2_with fail
                    go_meet
                    exact ⟨rfl, C.out, K.out, F.out, PB.out, X.out, Y.out, HB.out⟩
                    
              case rest =>
                clear HB C K F PB X Y
                obtain ⟨rfl, hC_, hK_, hF_, hPB_, hX_, hY_, hBel_⟩ := hcut
                have C := Lib.hid hC_
                have K := Lib.hid hK_
                have F := Lib.hid hF_
                have PB := Lib.hid hPB_
                have X := Lib.hid hX_
                have Y := Lib.hid hY_
                have HB := Lib.hid hBel_
                clear hC_ hK_ hF_ hPB_ hX_ hY_ hBel_
                clear Y PB
                have r_C := C.out.row
                have o_C := C.out.open
                have l_C := C.out.lt
                have c_C := C.out.cell
                have z_C := C.out.frozen
                have r_K := K.out.row
                have o_K := K.out.open
                have l_K := K.out.lt
                have c_K := K.out.cell
                have z_K := K.out.frozen
                have r_F := F.out.row
                have o_F := F.out.open
                have l_F := F.out.lt
                have c_F := F.out.cell
                have z_F := F.out.frozen
                go_wp2_with fail
                clear r_C o_C l_C c_C z_C r_K o_K l_K c_K z_K r_F o_F l_F c_F z_F
                go_loopw [19] (fun i wr => ∃ t : Nat, t ≤ N ∧ i = .int .i64 t ∧ At wr gc 27 (cc cy) ∧ At wr gk 31 (kc k) ∧ At wr gf 139 (fc cy) ∧ Pls wr b1 N cy k ∧ Below w.heap.size w wr) (fun i _ => N - (intOf i).toNat)
                case atStart => exact ⟨0, Nat.zero_le _, rfl, C.out, K.out, F.out, X.out, HB.out⟩
                case round =>
                  clear HB C K F X
                  obtain ⟨t, ht, rfl, hC_, hK_, hF_, hX_, hBel_⟩ := hrel
                  have C := Lib.hid hC_
                  have K := Lib.hid hK_
                  have F := Lib.hid hF_
                  have X := Lib.hid hX_
                  have HB := Lib.hid hBel_
                  clear hC_ hK_ hF_ hX_ hBel_
                  have hN4 : N ≤ 4 := by
                    cases hk : kvld k
                    · have := HNK.out.1 hk; omega
                    · have := HNK.out.2 hk; omega
                  by_cases htl : t < N
                  · have tt := trivial
                    
                    obtain ⟨bx, hbx, lx, hx⟩ := X.out (by omega)
                    obtain ⟨x0, x1⟩ := hx t htl
                    subst hbx
                    obtain ⟨ix, hix⟩ : ∃ x, x = idx cy k t := ⟨_, rfl⟩
                    rw [← hix] at x1
                    have HIX := Lib.hid hix.symm
                    have hgp := guardP
                    have hnp := neqP
                    clear hx hix
                    go_wp2_with fail
                    have r_C := C.out.row
                    have o_C := C.out.open
                    have l_C := C.out.lt
                    have c_C := C.out.cell
                    have z_C := C.out.frozen
                    have r_K := K.out.row
                    have o_K := K.out.open
                    have l_K := K.out.lt
                    have c_K := K.out.cell
                    have z_K := K.out.frozen
                    have r_F := F.out.row
                    have o_F := F.out.open
                    have l_F := F.out.lt
                    have c_F := F.out.cell
                    have z_F := F.out.frozen
                    refine region_sq (fun _ => False) [(0, true), (1, true), (2, true), (3, true), (4, true), (5, true), (6, true), (7, false), (8, true)] (by kernel_rfl) (by kernel_rfl) (fun _ _ d _ _ h => by cases d <;> exact h) ?_
                    repeat (first
                      | (refine sq_yes rfl (by rfl) (fun w' hM => by ((try replace hM := hM.of_drew); obtain ⟨hR1, hR2, hR3⟩ := hM.rules; clear hM; go_simp; with_reducible rfl)) ?_; simp only [Act.put, List.setIfInBounds_toArray, List.set_cons_zero, List.set_cons_succ])
                      | (refine sq_no rfl (by rfl) ?_; simp only [Act.put, List.setIfInBounds_toArray, List.set_cons_zero, List.set_cons_succ]))
                    clear r_C o_C l_C c_C z_C r_K o_K l_K c_K z_K r_F o_F l_F c_F z_F
                    replace C := Lib.hid C.out.drew
                    replace K := Lib.hid K.out.drew
                    replace F := Lib.hid F.out.drew
                    replace X := Lib.hid X.out.drew
                    replace HB := Lib.hid HB.out.drew
                    generalize wr.drew = w44 at *
                    refine sq_do_yes rfl (by rfl) (fun K_ hK_ => ?_)
                    go_wp2_with fail
                    refine (refPlace_any cy k t (by omega) e2 e3 _).mono ?_
                    rintro e w45 ⟨rfl, hb⟩
                    have hbs : Below w44.heap.size w44 w45 := step_below (by first | exact Below.refl _ _ | exact (Below.refl _ _).drew | exact (Below.refl _ _).alloc (Nat.le_refl _) _ | exact ((Below.refl _ _).alloc (Nat.le_refl _) _).drew | exact ((Below.refl _ _).drew).alloc (Nat.le_refl _) _ | exact ((Below.refl _ _).alloc (Nat.le_refl _) _).alloc (by simp) _ | exact (((Below.refl _ _).alloc (Nat.le_refl _) _).alloc (by simp) _).drew | exact (((Below.refl _ _).alloc (Nat.le_refl _) _).alloc (by simp) _).alloc (by simp; omega) _) hb
                    try clear HBz
                    have HBz := HB.out.size
                    replace HB := Lib.hid (step_below HB.out hbs)
                    replace C := Lib.hid (C.out.below hbs C.out.lt)
                    replace K := Lib.hid (K.out.below hbs K.out.lt)
                    replace F := Lib.hid (F.out.below hbs F.out.lt)
                    replace X := Lib.hid (X.out.below hbs)
                    clear hbs
                    rw [HIX.out]
                    go_wp2_with fail
                    refine ⟨Mod.of_below hb, ?_⟩
                    clear hb
                    have r_C := C.out.row
                    have o_C := C.out.open
                    have l_C := C.out.lt
                    have c_C := C.out.cell
                    have z_C := C.out.frozen
                    have r_K := K.out.row
                    have o_K := K.out.open
                    have l_K := K.out.lt
                    have c_K := K.out.cell
                    have z_K := K.out.frozen
                    have r_F := F.out.row
                    have o_F := F.out.open
                    have l_F := F.out.lt
                    have c_F := F.out.cell
                    have z_F := F.out.frozen
                    repeat (first
                      | (refine sq_yes rfl (by rfl) (fun w' hM => by ((try replace hM := hM.of_drew); obtain ⟨hR1, hR2, hR3⟩ := hM.rules; clear hM; go_simp; with_reducible rfl)) ?_; simp only [Act.put, List.setIfInBounds_toArray, List.set_cons_zero, List.set_cons_succ])
                      | (refine sq_no rfl (by rfl) ?_; simp only [Act.put, List.setIfInBounds_toArray, List.set_cons_zero, List.set_cons_succ]))
                    clear r_C o_C l_C c_C z_C r_K o_K l_K c_K z_K r_F o_F l_F c_F z_F
                    refine sq_end ?_
                    go_wp2_with fail
                    go_roundw
                    case rel => exact ⟨t + 1, by omega, by go_num, C.out, K.out, F.out, X.out, HB.out⟩
                    case measure => simp [intOf] <;> omega
                    
                  · obtain rfl : N = t := by omega
                    clear X F
                    go_wp2_with fail
                    
                    go_roundw
                    case rel => exact ⟨j + 1, cy, by omega, by go_num, C.out, K.out, HB.out⟩
                    case measure => simp [intOf] <;> omega
    · have hj2 : j = 2 := by omega
      subst hj2
      go_wp2_with fail
      refine (awake_any _).mono ?_
      rintro e w46 ⟨rfl, hb⟩
      have hbs : Below wr.heap.size wr w46 := step_below (by first | exact Below.refl _ _ | exact (Below.refl _ _).drew | exact (Below.refl _ _).alloc (Nat.le_refl _) _ | exact ((Below.refl _ _).alloc (Nat.le_refl _) _).drew | exact ((Below.refl _ _).drew).alloc (Nat.le_refl _) _ | exact ((Below.refl _ _).alloc (Nat.le_refl _) _).alloc (by simp) _ | exact (((Below.refl _ _).alloc (Nat.le_refl _) _).alloc (by simp) _).drew | exact (((Below.refl _ _).alloc (Nat.le_refl _) _).alloc (by simp) _).alloc (by simp; omega) _) hb
      try clear HBz
      have HBz := HB.out.size
      replace HB := Lib.hid (step_below HB.out hbs)
      replace C := Lib.hid (C.out.below hbs C.out.lt)
      replace K := Lib.hid (K.out.below hbs K.out.lt)
      clear hbs
      clear hb
      go_wp2_with fail
      go_ret
      exact ⟨rfl, HB.out⟩
end Go.Proofs.Ythfgccibiajneaa
