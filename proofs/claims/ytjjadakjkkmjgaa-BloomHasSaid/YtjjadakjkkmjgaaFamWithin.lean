/-
  FamilyWithin: its walk.
-/
import Derived.Test.YtjjadakjkkmjgaaFamAll
import Derived.Test.YtjjadakjkkmjgaaFamAlone
namespace Go.Proofs.Ytjjadakjkkmjgaa
open Go.RowKit
/-- A slice of a flow's first places. -/
def Pls (w : World) (a : Option Addr) (n : Nat) (c : Cf) (k : Ky) : Prop :=
  0 < n → ∃ b, a = some ⟨b, 0, none⟩ ∧ b < w.heap.size ∧ ∀ s, s < n → w.cell? ⟨b, s * 2, none⟩ = some (.int .i64 s) ∧ w.cell? ⟨b, s * 2 + 1, none⟩ = some (.int .i64 (idx c k s))
theorem Pls.below {w w' : World} {a : Option Addr} {n : Nat} {c : Cf} {k : Ky} (h : Pls w a n c k) (hb : Below w.heap.size w w') : Pls w' a n c k := fun hn => by
  obtain ⟨b, rfl, hlt, hc⟩ := h hn
  exact ⟨b, rfl, Nat.lt_of_lt_of_le hlt hb.size, fun s hs => ⟨(hb.cell (p := ⟨b, s * 2, none⟩) hlt).trans (hc s hs).1, (hb.cell (p := ⟨b, s * 2 + 1, none⟩) hlt).trans (hc s hs).2⟩⟩
theorem Pls.drew {w : World} {a : Option Addr} {n : Nat} {c : Cf} {k : Ky} (h : Pls w a n c k) : Pls w.drew a n c k := h
theorem flat_get (c : Cf) (k : Ky) : ∀ (l : List Nat) (s : Nat), s < l.length → (l.flatMap (plCells c k))[s * 2]? = some (.int .i64 (l.getD s 0 : Nat)) ∧ (l.flatMap (plCells c k))[s * 2 + 1]? = some (.int .i64 (idx c k (l.getD s 0)))
  | [], s, h => by simp at h
  | x :: r, 0, _ => by simp [plCells]
  | x :: r, s + 1, h => by
    have := flat_get c k r s (by simpa using h)
    rw [List.flatMap_cons, show (s + 1) * 2 = s * 2 + 1 + 1 by omega, show s * 2 + 1 + 1 + 1 = (s * 2 + 1) + 1 + 1 by omega]
    simp only [plCells, List.cons_append, List.nil_append, List.getElem?_cons_succ]
    simpa [plCells] using this
theorem all_pl (gf : Nat) (c : Cf) (k : Ky) (most : Int) (N : Nat) (w : World) (h : At w gf 80 (fc c)) (hst : c.stages ≤ 4) (hsz : 1 ≤ c.size) (hN : cutN most (List.range (plN c k)) = List.range N) :
    Calls Try.prog 28 #[.pointer (some ⟨gf, 0, none⟩), .agg (kc k), .int .i64 most] w fun e w' => ∃ a q, e = .returned (.slice a N q) ∧ Pls w' a N c k ∧ Below w.heap.size w w' :=
  (all_any gf c k most w h hst hsz).mono fun e w' ⟨v, he, ho, hb⟩ => by
    rw [hN, List.length_range] at ho
    obtain ⟨h1, h2⟩ := ho
    rcases h2 with ⟨rfl, h0⟩ | ⟨g, cap, cur, rfl, h4, h5, h6, h7, h8, h9⟩
    · exact ⟨none, 0, by rw [he, h0], fun hn => by omega, hb⟩
    · refine ⟨_, cap, he, fun hn => ⟨g, rfl, (Array.getElem?_eq_some_iff.1 h5).1, fun s hs => ?_⟩, hb⟩
      have hf := flat_get c k (List.range N) s (by simpa using hs)
      have e1 : (List.range N).getD s 0 = s := by rw [List.getD_eq_getElem?_getD, List.getElem?_range hs]; rfl
      rw [e1] at hf
      have hx : ∀ j, j < N * 2 → cur[j]? = ((List.range N).flatMap (plCells c k))[j]? := fun j hj => by
        have := congrArg (fun x : List Value => x[j]?) h9
        simp only [List.getElem?_take, if_pos hj] at this
        rw [← Array.getElem?_toList, this]
      rw [cell_of_row w' g _ cur _ (0, 0) h5, cell_of_row w' g _ cur _ (0, 0) h5, hx _ (by omega), hx _ (by omega)]
      exact hf
theorem plN_yes (c : Cf) (k : Ky) (h : kvld k = true) : plN c k = c.stages.toNat := by unfold plN; rw [if_pos h]
theorem bitsOf_bounds (c : Cf) (k : Ky) (t : Nat) (h : t < (bitsOf c k).length) (hb : 1 ≤ c.bloom) : 0 ≤ (bitsOf c k).getD t 0 ∧ (bitsOf c k).getD t 0 < c.bloom := by
  have hm : (bitsOf c k).getD t 0 ∈ bitsOf c k := by
    rw [List.getD_eq_getElem?_getD, List.getElem?_eq_getElem h]; exact List.getElem_mem h
  generalize (bitsOf c k).getD t 0 = x at hm
  unfold bitsOf at hm
  split at hm
  · obtain ⟨i, _, rfl⟩ := List.mem_map.1 hm
    exact ⟨Int.emod_nonneg _ (by omega), Int.emod_lt_of_pos _ (by omega)⟩
  · simp at hm
set_option maxRecDepth 100000 in
set_option maxHeartbeats 16000000 in
theorem within_law (a0 : Option Addr) (n0 c0 : Nat) (z0 : List Int) (a1 : Int) (a2 a3 : Bool) (a4 : Int) (w : World) (h0 : IsRow .i64 w a0 n0 c0 z0) (_ : (Lit.int .i64 a1).wf = true) (_ : (Lit.int .i64 a4).wf = true) :
    Calls Try.prog 6 #[.slice a0 n0 c0, .int .i64 a1, .bool a2, .bool a3, .int .i64 a4] w fun e w' => e = .returned (.bool true) ∧ Below w.heap.size w w' := by
  obtain ⟨hI, hm, _⟩ := h0.ints
  have HI := Lib.hid hI
  clear h0 hI
  unfold maxLen at hm
  have hcase : 30 < n0 ∨ (n0 ≤ 30 ∧ a4 < 1) ∨ (n0 ≤ 30 ∧ 1 ≤ a4 ∧ 64 < a4) ∨ (n0 ≤ 30 ∧ 1 ≤ a4 ∧ a4 ≤ 64) := by omega
  rcases hcase with hn | ⟨hn, hn2⟩ | ⟨hn, hn2, hn3⟩ | ⟨hn, hn2, hn3⟩
  iterate 3
    · go_enter Try.func6, Try.ntmps6
      go_wp2_with fail
      refine (awake_any _).mono ?_
      rintro e w1 ⟨rfl, hb⟩
      go_wp2_with fail
      go_ret
      exact ⟨rfl, hb⟩
  · obtain ⟨c, hc⟩ : ∃ c, c = config (z0.take n0) := ⟨_, rfl⟩
    have KC := Lib.hid (fun (w : World) (h : Ints w a0 n0 (z0.take n0)) => config_any a0 n0 c0 (z0.take n0) w h (by omega))
    rw [← hc] at KC
    have OK := Lib.hid (show cok c = true by rw [hc]; exact cok_config _)
    have hst := fun (w : World) (n : Nat) (Z : Array Value) (hn : n = w.heap.size) (hZ : Z.size = 48) => store_new (P := Try.prog) sizeC w n Z (cc c) hn hZ (cc_size _) (cc_one _)
    clear hc
    obtain ⟨k, hk⟩ : ∃ k, k = akey a1 a2 a3 := ⟨_, rfl⟩
    have KK := Lib.hid (fun w => key_any a1 a2 a3 w)
    have KV := Lib.hid (kvld_akey a1 a2 a3)
    rw [← hk] at KK KV
    clear hk
    have hsk := fun (w : World) (n : Nat) (Z : Array Value) (hn : n = w.heap.size) (hZ : Z.size = 37) => store_new (P := Try.prog) sizeK w n Z (kc k) hn hZ (kc_size _) (kc_one _)
    have FC := fits_of OK.out
    have e1 : c.stages ≤ 4 := FC.st.2
    have e2 : 1 ≤ c.size := by have := FC.sz.1; omega
    have e5 : 0 ≤ c.hashes ∧ c.hashes ≤ 80 := by have := FC.ha; omega
    have e7 : 1 ≤ c.bloom := by have := FC.bl; omega
    have dg1 := FC.dg
    obtain ⟨N, hN⟩ : ∃ N : Nat, c.stages = N := ⟨c.stages.toNat, by have := FC.st; omega⟩
    have HN := Lib.hid hN
    have KN := Lib.hid (show cutN (-1) (List.range (plN c k)) = List.range N by rw [plN_yes c k KV.out, hN]; rfl)
    clear hN
    go_enter Try.func6, Try.ntmps6
    have HB := Lib.hid (Below.refl w.heap.size w)
    go_wp2_with fail
    refine (KC.out _ HI.out).mono ?_
    rintro e w1 ⟨rfl, hb⟩
    have hbs : Below w.heap.size w w1 := step_below (by first | exact Below.refl _ _ | exact (Below.refl _ _).drew | exact (Below.refl _ _).alloc (Nat.le_refl _) _ | exact ((Below.refl _ _).alloc (Nat.le_refl _) _).drew | exact ((Below.refl _ _).drew).alloc (Nat.le_refl _) _ | exact ((Below.refl _ _).alloc (Nat.le_refl _) _).alloc (by simp) _ | exact (((Below.refl _ _).alloc (Nat.le_refl _) _).alloc (by simp) _).drew | exact (((Below.refl _ _).alloc (Nat.le_refl _) _).alloc (by simp) _).alloc (by simp; omega) _) hb
    replace HB := Lib.hid (step_below HB.out hbs)
    clear hbs
    clear hb
    go_wp2_with fail
    have HBp := HB
    have C := at_new w1 29 (cc c) (w1.heap.size) rfl
    replace HB := Lib.hid (HB.out.alloc HB.out.size (.cells (cc c) 29))
    obtain ⟨gc, hg⟩ : ∃ g, g = w1.heap.size := ⟨_, rfl⟩
    have hgs : gc = w1.heap.size := by rw [hg]
    have b_gc : w.heap.size ≤ gc := by rw [hgs]; exact HBp.out.size
    have S_w2 := Lib.hid (show (w1.alloc (.cells (cc c) 29)).heap.size = gc + 1 by rw [World.size_alloc, hgs])
    rw [← hg] at C
    try rw [← hg]
    clear hg hgs HBp
    replace C := Lib.hid C
    generalize w1.alloc (.cells (cc c) 29) = w2 at *
    have r_C := C.out.row
    have o_C := C.out.open
    have l_C := C.out.lt
    have c_C := C.out.cell
    have z_C := C.out.frozen
    go_wp2_with fail
    clear r_C o_C l_C c_C z_C
    refine (new_ok c _ OK.out).mono ?_
    rintro e w3 ⟨gf, rfl, hgf, hF, hb⟩
    have hbs : Below w2.heap.size w2 w3 := step_below (by first | exact Below.refl _ _ | exact (Below.refl _ _).drew | exact (Below.refl _ _).alloc (Nat.le_refl _) _ | exact ((Below.refl _ _).alloc (Nat.le_refl _) _).drew | exact ((Below.refl _ _).drew).alloc (Nat.le_refl _) _ | exact ((Below.refl _ _).alloc (Nat.le_refl _) _).alloc (by simp) _ | exact (((Below.refl _ _).alloc (Nat.le_refl _) _).alloc (by simp) _).drew | exact (((Below.refl _ _).alloc (Nat.le_refl _) _).alloc (by simp) _).alloc (by simp; omega) _) hb
    replace HB := Lib.hid (step_below HB.out hbs)
    replace C := Lib.hid (C.out.below hbs C.out.lt)
    clear hbs
    clear hb
    have F := Lib.hid hF
    clear hF hgf
    
    have r_C := C.out.row
    have o_C := C.out.open
    have l_C := C.out.lt
    have c_C := C.out.cell
    have z_C := C.out.frozen
    have r_F := F.out.row
    have o_F := F.out.open
    have l_F := F.out.lt
    have c_F := F.out.cell
    have z_F := F.out.frozen
    go_wp2_with fail
    clear r_C o_C l_C c_C z_C r_F o_F l_F c_F z_F
    refine (new_ok c _ OK.out).mono ?_
    rintro e w4 ⟨gg, rfl, hgg, hG, hb⟩
    have hbs : Below w3.heap.size w3 w4 := step_below (by first | exact Below.refl _ _ | exact (Below.refl _ _).drew | exact (Below.refl _ _).alloc (Nat.le_refl _) _ | exact ((Below.refl _ _).alloc (Nat.le_refl _) _).drew | exact ((Below.refl _ _).drew).alloc (Nat.le_refl _) _ | exact ((Below.refl _ _).alloc (Nat.le_refl _) _).alloc (by simp) _ | exact (((Below.refl _ _).alloc (Nat.le_refl _) _).alloc (by simp) _).drew | exact (((Below.refl _ _).alloc (Nat.le_refl _) _).alloc (by simp) _).alloc (by simp; omega) _) hb
    replace HB := Lib.hid (step_below HB.out hbs)
    replace C := Lib.hid (C.out.below hbs C.out.lt)
    replace F := Lib.hid (F.out.below hbs F.out.lt)
    clear hbs
    clear hb
    have G := Lib.hid hG
    clear hG hgg
    
    have r_C := C.out.row
    have o_C := C.out.open
    have l_C := C.out.lt
    have c_C := C.out.cell
    have z_C := C.out.frozen
    have r_F := F.out.row
    have o_F := F.out.open
    have l_F := F.out.lt
    have c_F := F.out.cell
    have z_F := F.out.frozen
    have r_G := G.out.row
    have o_G := G.out.open
    have l_G := G.out.lt
    have c_G := G.out.cell
    have z_G := G.out.frozen
    go_wp2_with fail
    clear r_C o_C l_C c_C z_C r_F o_F l_F c_F z_F r_G o_G l_G c_G z_G
    refine (KK.out _).mono ?_
    rintro e w5 ⟨rfl, hb⟩
    have hbs : Below w4.heap.size w4 w5 := step_below (by first | exact Below.refl _ _ | exact (Below.refl _ _).drew | exact (Below.refl _ _).alloc (Nat.le_refl _) _ | exact ((Below.refl _ _).alloc (Nat.le_refl _) _).drew | exact ((Below.refl _ _).drew).alloc (Nat.le_refl _) _ | exact ((Below.refl _ _).alloc (Nat.le_refl _) _).alloc (by simp) _ | exact (((Below.refl _ _).alloc (Nat.le_refl _) _).alloc (by simp) _).drew | exact (((Below.refl _ _).alloc (Nat.le_refl _) _).alloc (by simp) _).alloc (by simp; omega) _) hb
    replace HB := Lib.hid (step_below HB.out hbs)
    replace C := Lib.hid (C.out.below hbs C.out.lt)
    replace F := Lib.hid (F.out.below hbs F.out.lt)
    replace G := Lib.hid (G.out.below hbs G.out.lt)
    clear hbs
    clear hb
    go_wp2_with fail
    have HBp := HB
    have K := at_new w5 40 (kc k) (w5.heap.size) rfl
    replace HB := Lib.hid (HB.out.alloc HB.out.size (.cells (kc k) 40))
    have Cp := C
    replace C := Lib.hid (C.out.alloc (.cells (kc k) 40))
    have Fp := F
    replace F := Lib.hid (F.out.alloc (.cells (kc k) 40))
    have Gp := G
    replace G := Lib.hid (G.out.alloc (.cells (kc k) 40))
    obtain ⟨gk, hg⟩ : ∃ g, g = w5.heap.size := ⟨_, rfl⟩
    have hgs : gk = w5.heap.size := by rw [hg]
    have b_gk : w.heap.size ≤ gk := by rw [hgs]; exact HBp.out.size
    have S_w6 := Lib.hid (show (w5.alloc (.cells (kc k) 40)).heap.size = gk + 1 by rw [World.size_alloc, hgs])
    rw [← hg] at K
    try rw [← hg]
    have ne_C_K : gc ≠ gk := by have := Cp.out.lt; omega
    have ne_K_C : gk ≠ gc := fun h => ne_C_K h.symm
    have ne_F_K : gf ≠ gk := by have := Fp.out.lt; omega
    have ne_K_F : gk ≠ gf := fun h => ne_F_K h.symm
    have ne_G_K : gg ≠ gk := by have := Gp.out.lt; omega
    have ne_K_G : gk ≠ gg := fun h => ne_G_K h.symm
    clear hg hgs HBp Cp Fp Gp
    replace K := Lib.hid K
    generalize w5.alloc (.cells (kc k) 40) = w6 at *
    have r_C := C.out.row
    have o_C := C.out.open
    have l_C := C.out.lt
    have c_C := C.out.cell
    have z_C := C.out.frozen
    have r_F := F.out.row
    have o_F := F.out.open
    have l_F := F.out.lt
    have c_F := F.out.cell
    have z_F := F.out.frozen
    have r_G := G.out.row
    have o_G := G.out.open
    have l_G := G.out.lt
    have c_G := G.out.cell
    have z_G := G.out.frozen
    have r_K := K.out.row
    have o_K := K.out.open
    have l_K := K.out.lt
    have c_K := K.out.cell
    have z_K := K.out.frozen
    refine region_sq (fun _ => False) [(0, true), (1, true), (3, true), (4, true), (2, false), (5, false), (6, true), (7, true)] (by kernel_rfl) (by kernel_rfl) (fun _ _ d _ _ h => by cases d <;> exact h) ?_
    repeat (first
      | (refine sq_yes rfl (by rfl) (fun w' hM => by ((try replace hM := hM.of_drew); obtain ⟨hR1, hR2, hR3⟩ := hM.rules; clear hM; go_simp; with_reducible rfl)) ?_; simp only [Act.put, List.setIfInBounds_toArray, List.set_cons_zero, List.set_cons_succ])
      | (refine sq_no rfl (by rfl) ?_; simp only [Act.put, List.setIfInBounds_toArray, List.set_cons_zero, List.set_cons_succ]))
    clear r_C o_C l_C c_C z_C r_F o_F l_F c_F z_F r_G o_G l_G c_G z_G r_K o_K l_K c_K z_K
    replace C := Lib.hid C.out.drew
    replace F := Lib.hid F.out.drew
    replace G := Lib.hid G.out.drew
    replace K := Lib.hid K.out.drew
    replace HB := Lib.hid HB.out.drew
    generalize w6.drew = w7 at *
    refine sq_do_yes rfl (by rfl) (fun K_ hK_ => ?_)
    go_wp2_with fail
    refine (all_pl gf c k (-1) N _ F.out e1 e2 KN.out).mono ?_
    rintro e w8 ⟨b1, q1, rfl, hp, hb⟩
    have hbs : Below w7.heap.size w7 w8 := step_below (by first | exact Below.refl _ _ | exact (Below.refl _ _).drew | exact (Below.refl _ _).alloc (Nat.le_refl _) _ | exact ((Below.refl _ _).alloc (Nat.le_refl _) _).drew | exact ((Below.refl _ _).drew).alloc (Nat.le_refl _) _ | exact ((Below.refl _ _).alloc (Nat.le_refl _) _).alloc (by simp) _ | exact (((Below.refl _ _).alloc (Nat.le_refl _) _).alloc (by simp) _).drew | exact (((Below.refl _ _).alloc (Nat.le_refl _) _).alloc (by simp) _).alloc (by simp; omega) _) hb
    replace HB := Lib.hid (step_below HB.out hbs)
    replace C := Lib.hid (C.out.below hbs C.out.lt)
    replace F := Lib.hid (F.out.below hbs F.out.lt)
    replace G := Lib.hid (G.out.below hbs G.out.lt)
    replace K := Lib.hid (K.out.below hbs K.out.lt)
    clear hbs
    have X := Lib.hid hp
    clear hp
    go_wp2_with fail
    refine ⟨Mod.of_below hb, ?_⟩
    clear hb
    have r_C := C.out.row
    have o_C := C.out.open
    have l_C := C.out.lt
    have c_C := C.out.cell
    have z_C := C.out.frozen
    have r_F := F.out.row
    have o_F := F.out.open
    have l_F := F.out.lt
    have c_F := F.out.cell
    have z_F := F.out.frozen
    have r_G := G.out.row
    have o_G := G.out.open
    have l_G := G.out.lt
    have c_G := G.out.cell
    have z_G := G.out.frozen
    have r_K := K.out.row
    have o_K := K.out.open
    have l_K := K.out.lt
    have c_K := K.out.cell
    have z_K := K.out.frozen
    repeat (first
      | (refine sq_yes rfl (by rfl) (fun w' hM => by ((try replace hM := hM.of_drew); obtain ⟨hR1, hR2, hR3⟩ := hM.rules; clear hM; go_simp; with_reducible rfl)) ?_; simp only [Act.put, List.setIfInBounds_toArray, List.set_cons_zero, List.set_cons_succ])
      | (refine sq_no rfl (by rfl) ?_; simp only [Act.put, List.setIfInBounds_toArray, List.set_cons_zero, List.set_cons_succ]))
    clear r_C o_C l_C c_C z_C r_F o_F l_F c_F z_F r_G o_G l_G c_G z_G r_K o_K l_K c_K z_K
    refine sq_do_yes rfl (by rfl) (fun K_ hK_ => ?_)
    go_wp2_with fail
    refine (all_pl gg c k (-1) N _ G.out e1 e2 KN.out).mono ?_
    rintro e w9 ⟨b2, q2, rfl, hp, hb⟩
    have hbs : Below w8.heap.size w8 w9 := step_below (by first | exact Below.refl _ _ | exact (Below.refl _ _).drew | exact (Below.refl _ _).alloc (Nat.le_refl _) _ | exact ((Below.refl _ _).alloc (Nat.le_refl _) _).drew | exact ((Below.refl _ _).drew).alloc (Nat.le_refl _) _ | exact ((Below.refl _ _).alloc (Nat.le_refl _) _).alloc (by simp) _ | exact (((Below.refl _ _).alloc (Nat.le_refl _) _).alloc (by simp) _).drew | exact (((Below.refl _ _).alloc (Nat.le_refl _) _).alloc (by simp) _).alloc (by simp; omega) _) hb
    replace HB := Lib.hid (step_below HB.out hbs)
    replace C := Lib.hid (C.out.below hbs C.out.lt)
    replace F := Lib.hid (F.out.below hbs F.out.lt)
    replace G := Lib.hid (G.out.below hbs G.out.lt)
    replace K := Lib.hid (K.out.below hbs K.out.lt)
    replace X := Lib.hid (X.out.below hbs)
    clear hbs
    have Y := Lib.hid hp
    clear hp
    go_wp2_with fail
    refine ⟨Mod.of_below hb, ?_⟩
    clear hb
    have r_C := C.out.row
    have o_C := C.out.open
    have l_C := C.out.lt
    have c_C := C.out.cell
    have z_C := C.out.frozen
    have r_F := F.out.row
    have o_F := F.out.open
    have l_F := F.out.lt
    have c_F := F.out.cell
    have z_F := F.out.frozen
    have r_G := G.out.row
    have o_G := G.out.open
    have l_G := G.out.lt
    have c_G := G.out.cell
    have z_G := G.out.frozen
    have r_K := K.out.row
    have o_K := K.out.open
    have l_K := K.out.lt
    have c_K := K.out.cell
    have z_K := K.out.frozen
    repeat (first
      | (refine sq_yes rfl (by rfl) (fun w' hM => by ((try replace hM := hM.of_drew); obtain ⟨hR1, hR2, hR3⟩ := hM.rules; clear hM; go_simp; with_reducible rfl)) ?_; simp only [Act.put, List.setIfInBounds_toArray, List.set_cons_zero, List.set_cons_succ])
      | (refine sq_no rfl (by rfl) ?_; simp only [Act.put, List.setIfInBounds_toArray, List.set_cons_zero, List.set_cons_succ]))
    clear r_C o_C l_C c_C z_C r_F o_F l_F c_F z_F r_G o_G l_G c_G z_G r_K o_K l_K c_K z_K
    refine sq_end ?_
    have r_C := C.out.row
    have o_C := C.out.open
    have l_C := C.out.lt
    have c_C := C.out.cell
    have z_C := C.out.frozen
    have r_F := F.out.row
    have o_F := F.out.open
    have l_F := F.out.lt
    have c_F := F.out.cell
    have z_F := F.out.frozen
    have r_G := G.out.row
    have o_G := G.out.open
    have l_G := G.out.lt
    have c_G := G.out.cell
    have z_G := G.out.frozen
    have r_K := K.out.row
    have o_K := K.out.open
    have l_K := K.out.lt
    have c_K := K.out.cell
    have z_K := K.out.frozen
    go_wp2_with fail
    clear r_C o_C l_C c_C z_C r_F o_F l_F c_F z_F r_G o_G l_G c_G z_G r_K o_K l_K c_K z_K
    obtain ⟨d, hd⟩ : ∃ d : Nat, c.digest = d := ⟨c.digest.toNat, by omega⟩
    obtain ⟨D, hD⟩ : ∃ D : Nat, D = 2 ^ d := ⟨_, rfl⟩
    have hml := hsh_lt c.seed 8 (kbytes k)
    have q1 := (digest_facts d D (hsh c.seed 8 (kbytes k)) hD (by omega) (by omega) hml).1
    obtain ⟨dv, hdv⟩ : ∃ x, x = digOf c k := ⟨_, rfl⟩
    have hdlt : dv < D ∧ dv < 65536 := by
      rw [hdv, digOf_yes c k KV.out, hd, Int.toNat_natCast, ← hD]
      have h1 := Nat.mod_lt (hsh c.seed 8 (kbytes k)) (show D > 0 by rw [hD]; exact Nat.two_pow_pos d)
      have h2 : D ≤ 2 ^ 16 := by rw [hD]; exact Nat.pow_le_pow_right (n := 2) (Nat.le_succ 1) (show d ≤ 16 by omega)
      exact ⟨h1, by omega⟩
    have q3 : IntKind.i64.wrap (dv : Int) = (dv : Int) := by rw [IntKind.wrap_i64]; omega
    obtain ⟨sl, hsl⟩ : ∃ x, x = slotOf c k a4 := ⟨_, rfl⟩
    have hslb : 0 ≤ sl ∧ sl < a4 := by
      rw [hsl, slotOf_yes c k a4 KV.out hn2]
      exact ⟨Int.emod_nonneg _ (by omega), Int.emod_lt_of_pos _ (by omega)⟩
    have q7 : min d 64 = d := by omega
    have q4 : ¬ D ≤ dv := by omega
    have q5 : decide (sl < 0) = false := by simpa using hslb.1
    have q6 : decide (a4 ≤ sl) = false := by simpa using hslb.2
    have DV := Lib.hid hdv.symm
    have SL := Lib.hid hsl.symm
    have HD := Lib.hid hd
    have hcs := HN.out
    have dg2 := Lib.hid dg1
    have hd1 := HD.out
    clear hD hml hdv hsl hd hdlt hslb dg1
    have r_C := C.out.row
    have o_C := C.out.open
    have l_C := C.out.lt
    have c_C := C.out.cell
    have z_C := C.out.frozen
    have r_F := F.out.row
    have o_F := F.out.open
    have l_F := F.out.lt
    have c_F := F.out.cell
    have z_F := F.out.frozen
    have r_G := G.out.row
    have o_G := G.out.open
    have l_G := G.out.lt
    have c_G := G.out.cell
    have z_G := G.out.frozen
    have r_K := K.out.row
    have o_K := K.out.open
    have l_K := K.out.lt
    have c_K := K.out.cell
    have z_K := K.out.frozen
    refine region_sq (fun _ => False) [(0, true), (1, true), (2, true), (3, true), (4, true), (5, true), (6, true), (7, true), (8, true), (9, true), (10, true), (11, true), (12, true), (13, true), (14, true), (17, true), (18, true), (19, true), (15, false), (16, true), (20, true), (21, true), (22, true), (23, true), (24, true), (26, true), (27, true), (25, false), (28, false), (29, true), (30, true), (31, true), (32, true), (33, true), (34, true), (35, false), (36, true), (37, true), (38, true), (39, true), (40, true), (41, true), (43, true), (42, false), (44, true), (45, true), (46, true), (47, true), (48, true), (49, true), (51, true), (52, true), (53, true), (50, false), (54, false), (55, true), (56, true)] (by kernel_rfl) (by kernel_rfl) (fun _ _ d _ _ h => by cases d <;> exact h) ?_
    repeat (first
      | (refine sq_yes rfl (by rfl) (fun w' hM => by ((try replace hM := hM.of_drew); obtain ⟨hR1, hR2, hR3⟩ := hM.rules; clear hM; go_simp; with_reducible rfl)) ?_; simp only [Act.put, List.setIfInBounds_toArray, List.set_cons_zero, List.set_cons_succ])
      | (refine sq_no rfl (by rfl) ?_; simp only [Act.put, List.setIfInBounds_toArray, List.set_cons_zero, List.set_cons_succ]))
    clear r_C o_C l_C c_C z_C r_F o_F l_F c_F z_F r_G o_G l_G c_G z_G r_K o_K l_K c_K z_K
    replace C := Lib.hid C.out.drew
    replace F := Lib.hid F.out.drew
    replace G := Lib.hid G.out.drew
    replace K := Lib.hid K.out.drew
    replace X := Lib.hid X.out.drew
    replace Y := Lib.hid Y.out.drew
    replace HB := Lib.hid HB.out.drew
    generalize w9.drew = w10 at *
    refine sq_do_yes rfl (by rfl) (fun K_ hK_ => ?_)
    go_wp2_with fail
    refine (digest_any gf c k _ F.out dg2.out.1 dg2.out.2).mono ?_
    rintro e w11 ⟨rfl, hb⟩
    have hbs : Below w10.heap.size w10 w11 := step_below (by first | exact Below.refl _ _ | exact (Below.refl _ _).drew | exact (Below.refl _ _).alloc (Nat.le_refl _) _ | exact ((Below.refl _ _).alloc (Nat.le_refl _) _).drew | exact ((Below.refl _ _).drew).alloc (Nat.le_refl _) _ | exact ((Below.refl _ _).alloc (Nat.le_refl _) _).alloc (by simp) _ | exact (((Below.refl _ _).alloc (Nat.le_refl _) _).alloc (by simp) _).drew | exact (((Below.refl _ _).alloc (Nat.le_refl _) _).alloc (by simp) _).alloc (by simp; omega) _) hb
    replace HB := Lib.hid (step_below HB.out hbs)
    replace C := Lib.hid (C.out.below hbs C.out.lt)
    replace F := Lib.hid (F.out.below hbs F.out.lt)
    replace G := Lib.hid (G.out.below hbs G.out.lt)
    replace K := Lib.hid (K.out.below hbs K.out.lt)
    replace X := Lib.hid (X.out.below hbs)
    replace Y := Lib.hid (Y.out.below hbs)
    clear hbs
    rw [DV.out]
    go_wp2_with fail
    refine ⟨Mod.of_below hb, ?_⟩
    clear hb
    have r_C := C.out.row
    have o_C := C.out.open
    have l_C := C.out.lt
    have c_C := C.out.cell
    have z_C := C.out.frozen
    have r_F := F.out.row
    have o_F := F.out.open
    have l_F := F.out.lt
    have c_F := F.out.cell
    have z_F := F.out.frozen
    have r_G := G.out.row
    have o_G := G.out.open
    have l_G := G.out.lt
    have c_G := G.out.cell
    have z_G := G.out.frozen
    have r_K := K.out.row
    have o_K := K.out.open
    have l_K := K.out.lt
    have c_K := K.out.cell
    have z_K := K.out.frozen
    repeat (first
      | (refine sq_yes rfl (by rfl) (fun w' hM => by ((try replace hM := hM.of_drew); obtain ⟨hR1, hR2, hR3⟩ := hM.rules; clear hM; go_simp; with_reducible rfl)) ?_; simp only [Act.put, List.setIfInBounds_toArray, List.set_cons_zero, List.set_cons_succ])
      | (refine sq_no rfl (by rfl) ?_; simp only [Act.put, List.setIfInBounds_toArray, List.set_cons_zero, List.set_cons_succ]))
    clear r_C o_C l_C c_C z_C r_F o_F l_F c_F z_F r_G o_G l_G c_G z_G r_K o_K l_K c_K z_K
    refine sq_do_yes rfl (by rfl) (fun K_ hK_ => ?_)
    go_wp2_with fail
    refine (digest_any gf c k _ F.out dg2.out.1 dg2.out.2).mono ?_
    rintro e w12 ⟨rfl, hb⟩
    have hbs : Below w11.heap.size w11 w12 := step_below (by first | exact Below.refl _ _ | exact (Below.refl _ _).drew | exact (Below.refl _ _).alloc (Nat.le_refl _) _ | exact ((Below.refl _ _).alloc (Nat.le_refl _) _).drew | exact ((Below.refl _ _).drew).alloc (Nat.le_refl _) _ | exact ((Below.refl _ _).alloc (Nat.le_refl _) _).alloc (by simp) _ | exact (((Below.refl _ _).alloc (Nat.le_refl _) _).alloc (by simp) _).drew | exact (((Below.refl _ _).alloc (Nat.le_refl _) _).alloc (by simp) _).alloc (by simp; omega) _) hb
    replace HB := Lib.hid (step_below HB.out hbs)
    replace C := Lib.hid (C.out.below hbs C.out.lt)
    replace F := Lib.hid (F.out.below hbs F.out.lt)
    replace G := Lib.hid (G.out.below hbs G.out.lt)
    replace K := Lib.hid (K.out.below hbs K.out.lt)
    replace X := Lib.hid (X.out.below hbs)
    replace Y := Lib.hid (Y.out.below hbs)
    clear hbs
    rw [DV.out]
    go_wp2_with fail
    refine ⟨Mod.of_below hb, ?_⟩
    clear hb
    have r_C := C.out.row
    have o_C := C.out.open
    have l_C := C.out.lt
    have c_C := C.out.cell
    have z_C := C.out.frozen
    have r_F := F.out.row
    have o_F := F.out.open
    have l_F := F.out.lt
    have c_F := F.out.cell
    have z_F := F.out.frozen
    have r_G := G.out.row
    have o_G := G.out.open
    have l_G := G.out.lt
    have c_G := G.out.cell
    have z_G := G.out.frozen
    have r_K := K.out.row
    have o_K := K.out.open
    have l_K := K.out.lt
    have c_K := K.out.cell
    have z_K := K.out.frozen
    repeat (first
      | (refine sq_yes rfl (by rfl) (fun w' hM => by ((try replace hM := hM.of_drew); obtain ⟨hR1, hR2, hR3⟩ := hM.rules; clear hM; go_simp; with_reducible rfl)) ?_; simp only [Act.put, List.setIfInBounds_toArray, List.set_cons_zero, List.set_cons_succ])
      | (refine sq_no rfl (by rfl) ?_; simp only [Act.put, List.setIfInBounds_toArray, List.set_cons_zero, List.set_cons_succ]))
    clear r_C o_C l_C c_C z_C r_F o_F l_F c_F z_F r_G o_G l_G c_G z_G r_K o_K l_K c_K z_K
    refine sq_do_yes rfl (by rfl) (fun K_ hK_ => ?_)
    go_wp2_with fail
    refine (digest_any gg c k _ G.out dg2.out.1 dg2.out.2).mono ?_
    rintro e w13 ⟨rfl, hb⟩
    have hbs : Below w12.heap.size w12 w13 := step_below (by first | exact Below.refl _ _ | exact (Below.refl _ _).drew | exact (Below.refl _ _).alloc (Nat.le_refl _) _ | exact ((Below.refl _ _).alloc (Nat.le_refl _) _).drew | exact ((Below.refl _ _).drew).alloc (Nat.le_refl _) _ | exact ((Below.refl _ _).alloc (Nat.le_refl _) _).alloc (by simp) _ | exact (((Below.refl _ _).alloc (Nat.le_refl _) _).alloc (by simp) _).drew | exact (((Below.refl _ _).alloc (Nat.le_refl _) _).alloc (by simp) _).alloc (by simp; omega) _) hb
    replace HB := Lib.hid (step_below HB.out hbs)
    replace C := Lib.hid (C.out.below hbs C.out.lt)
    replace F := Lib.hid (F.out.below hbs F.out.lt)
    replace G := Lib.hid (G.out.below hbs G.out.lt)
    replace K := Lib.hid (K.out.below hbs K.out.lt)
    replace X := Lib.hid (X.out.below hbs)
    replace Y := Lib.hid (Y.out.below hbs)
    clear hbs
    rw [DV.out]
    go_wp2_with fail
    refine ⟨Mod.of_below hb, ?_⟩
    clear hb
    have r_C := C.out.row
    have o_C := C.out.open
    have l_C := C.out.lt
    have c_C := C.out.cell
    have z_C := C.out.frozen
    have r_F := F.out.row
    have o_F := F.out.open
    have l_F := F.out.lt
    have c_F := F.out.cell
    have z_F := F.out.frozen
    have r_G := G.out.row
    have o_G := G.out.open
    have l_G := G.out.lt
    have c_G := G.out.cell
    have z_G := G.out.frozen
    have r_K := K.out.row
    have o_K := K.out.open
    have l_K := K.out.lt
    have c_K := K.out.cell
    have z_K := K.out.frozen
    repeat (first
      | (refine sq_yes rfl (by rfl) (fun w' hM => by ((try replace hM := hM.of_drew); obtain ⟨hR1, hR2, hR3⟩ := hM.rules; clear hM; go_simp; with_reducible rfl)) ?_; simp only [Act.put, List.setIfInBounds_toArray, List.set_cons_zero, List.set_cons_succ])
      | (refine sq_no rfl (by rfl) ?_; simp only [Act.put, List.setIfInBounds_toArray, List.set_cons_zero, List.set_cons_succ]))
    clear r_C o_C l_C c_C z_C r_F o_F l_F c_F z_F r_G o_G l_G c_G z_G r_K o_K l_K c_K z_K
    refine sq_do_yes rfl (by rfl) (fun K_ hK_ => ?_)
    go_wp2_with fail
    refine (slot_any gf c k a4 _ F.out).mono ?_
    rintro e w14 ⟨rfl, hb⟩
    have hbs : Below w13.heap.size w13 w14 := step_below (by first | exact Below.refl _ _ | exact (Below.refl _ _).drew | exact (Below.refl _ _).alloc (Nat.le_refl _) _ | exact ((Below.refl _ _).alloc (Nat.le_refl _) _).drew | exact ((Below.refl _ _).drew).alloc (Nat.le_refl _) _ | exact ((Below.refl _ _).alloc (Nat.le_refl _) _).alloc (by simp) _ | exact (((Below.refl _ _).alloc (Nat.le_refl _) _).alloc (by simp) _).drew | exact (((Below.refl _ _).alloc (Nat.le_refl _) _).alloc (by simp) _).alloc (by simp; omega) _) hb
    replace HB := Lib.hid (step_below HB.out hbs)
    replace C := Lib.hid (C.out.below hbs C.out.lt)
    replace F := Lib.hid (F.out.below hbs F.out.lt)
    replace G := Lib.hid (G.out.below hbs G.out.lt)
    replace K := Lib.hid (K.out.below hbs K.out.lt)
    replace X := Lib.hid (X.out.below hbs)
    replace Y := Lib.hid (Y.out.below hbs)
    clear hbs
    rw [SL.out]
    go_wp2_with fail
    refine ⟨Mod.of_below hb, ?_⟩
    clear hb
    have r_C := C.out.row
    have o_C := C.out.open
    have l_C := C.out.lt
    have c_C := C.out.cell
    have z_C := C.out.frozen
    have r_F := F.out.row
    have o_F := F.out.open
    have l_F := F.out.lt
    have c_F := F.out.cell
    have z_F := F.out.frozen
    have r_G := G.out.row
    have o_G := G.out.open
    have l_G := G.out.lt
    have c_G := G.out.cell
    have z_G := G.out.frozen
    have r_K := K.out.row
    have o_K := K.out.open
    have l_K := K.out.lt
    have c_K := K.out.cell
    have z_K := K.out.frozen
    repeat (first
      | (refine sq_yes rfl (by rfl) (fun w' hM => by ((try replace hM := hM.of_drew); obtain ⟨hR1, hR2, hR3⟩ := hM.rules; clear hM; go_simp; with_reducible rfl)) ?_; simp only [Act.put, List.setIfInBounds_toArray, List.set_cons_zero, List.set_cons_succ])
      | (refine sq_no rfl (by rfl) ?_; simp only [Act.put, List.setIfInBounds_toArray, List.set_cons_zero, List.set_cons_succ]))
    clear r_C o_C l_C c_C z_C r_F o_F l_F c_F z_F r_G o_G l_G c_G z_G r_K o_K l_K c_K z_K
    refine sq_do_yes rfl (by rfl) (fun K_ hK_ => ?_)
    go_wp2_with fail
    refine (slot_any gf c k a4 _ F.out).mono ?_
    rintro e w15 ⟨rfl, hb⟩
    have hbs : Below w14.heap.size w14 w15 := step_below (by first | exact Below.refl _ _ | exact (Below.refl _ _).drew | exact (Below.refl _ _).alloc (Nat.le_refl _) _ | exact ((Below.refl _ _).alloc (Nat.le_refl _) _).drew | exact ((Below.refl _ _).drew).alloc (Nat.le_refl _) _ | exact ((Below.refl _ _).alloc (Nat.le_refl _) _).alloc (by simp) _ | exact (((Below.refl _ _).alloc (Nat.le_refl _) _).alloc (by simp) _).drew | exact (((Below.refl _ _).alloc (Nat.le_refl _) _).alloc (by simp) _).alloc (by simp; omega) _) hb
    replace HB := Lib.hid (step_below HB.out hbs)
    replace C := Lib.hid (C.out.below hbs C.out.lt)
    replace F := Lib.hid (F.out.below hbs F.out.lt)
    replace G := Lib.hid (G.out.below hbs G.out.lt)
    replace K := Lib.hid (K.out.below hbs K.out.lt)
    replace X := Lib.hid (X.out.below hbs)
    replace Y := Lib.hid (Y.out.below hbs)
    clear hbs
    rw [SL.out]
    go_wp2_with fail
    refine ⟨Mod.of_below hb, ?_⟩
    clear hb
    have r_C := C.out.row
    have o_C := C.out.open
    have l_C := C.out.lt
    have c_C := C.out.cell
    have z_C := C.out.frozen
    have r_F := F.out.row
    have o_F := F.out.open
    have l_F := F.out.lt
    have c_F := F.out.cell
    have z_F := F.out.frozen
    have r_G := G.out.row
    have o_G := G.out.open
    have l_G := G.out.lt
    have c_G := G.out.cell
    have z_G := G.out.frozen
    have r_K := K.out.row
    have o_K := K.out.open
    have l_K := K.out.lt
    have c_K := K.out.cell
    have z_K := K.out.frozen
    repeat (first
      | (refine sq_yes rfl (by rfl) (fun w' hM => by ((try replace hM := hM.of_drew); obtain ⟨hR1, hR2, hR3⟩ := hM.rules; clear hM; go_simp; with_reducible rfl)) ?_; simp only [Act.put, List.setIfInBounds_toArray, List.set_cons_zero, List.set_cons_succ])
      | (refine sq_no rfl (by rfl) ?_; simp only [Act.put, List.setIfInBounds_toArray, List.set_cons_zero, List.set_cons_succ]))
    clear r_C o_C l_C c_C z_C r_F o_F l_F c_F z_F r_G o_G l_G c_G z_G r_K o_K l_K c_K z_K
    refine sq_do_yes rfl (by rfl) (fun K_ hK_ => ?_)
    go_wp2_with fail
    refine (slot_any gf c k a4 _ F.out).mono ?_
    rintro e w16 ⟨rfl, hb⟩
    have hbs : Below w15.heap.size w15 w16 := step_below (by first | exact Below.refl _ _ | exact (Below.refl _ _).drew | exact (Below.refl _ _).alloc (Nat.le_refl _) _ | exact ((Below.refl _ _).alloc (Nat.le_refl _) _).drew | exact ((Below.refl _ _).drew).alloc (Nat.le_refl _) _ | exact ((Below.refl _ _).alloc (Nat.le_refl _) _).alloc (by simp) _ | exact (((Below.refl _ _).alloc (Nat.le_refl _) _).alloc (by simp) _).drew | exact (((Below.refl _ _).alloc (Nat.le_refl _) _).alloc (by simp) _).alloc (by simp; omega) _) hb
    replace HB := Lib.hid (step_below HB.out hbs)
    replace C := Lib.hid (C.out.below hbs C.out.lt)
    replace F := Lib.hid (F.out.below hbs F.out.lt)
    replace G := Lib.hid (G.out.below hbs G.out.lt)
    replace K := Lib.hid (K.out.below hbs K.out.lt)
    replace X := Lib.hid (X.out.below hbs)
    replace Y := Lib.hid (Y.out.below hbs)
    clear hbs
    rw [SL.out]
    go_wp2_with fail
    refine ⟨Mod.of_below hb, ?_⟩
    clear hb
    have r_C := C.out.row
    have o_C := C.out.open
    have l_C := C.out.lt
    have c_C := C.out.cell
    have z_C := C.out.frozen
    have r_F := F.out.row
    have o_F := F.out.open
    have l_F := F.out.lt
    have c_F := F.out.cell
    have z_F := F.out.frozen
    have r_G := G.out.row
    have o_G := G.out.open
    have l_G := G.out.lt
    have c_G := G.out.cell
    have z_G := G.out.frozen
    have r_K := K.out.row
    have o_K := K.out.open
    have l_K := K.out.lt
    have c_K := K.out.cell
    have z_K := K.out.frozen
    repeat (first
      | (refine sq_yes rfl (by rfl) (fun w' hM => by ((try replace hM := hM.of_drew); obtain ⟨hR1, hR2, hR3⟩ := hM.rules; clear hM; go_simp; with_reducible rfl)) ?_; simp only [Act.put, List.setIfInBounds_toArray, List.set_cons_zero, List.set_cons_succ])
      | (refine sq_no rfl (by rfl) ?_; simp only [Act.put, List.setIfInBounds_toArray, List.set_cons_zero, List.set_cons_succ]))
    clear r_C o_C l_C c_C z_C r_F o_F l_F c_F z_F r_G o_G l_G c_G z_G r_K o_K l_K c_K z_K
    refine sq_do_yes rfl (by rfl) (fun K_ hK_ => ?_)
    go_wp2_with fail
    refine (slot_any gg c k a4 _ G.out).mono ?_
    rintro e w17 ⟨rfl, hb⟩
    have hbs : Below w16.heap.size w16 w17 := step_below (by first | exact Below.refl _ _ | exact (Below.refl _ _).drew | exact (Below.refl _ _).alloc (Nat.le_refl _) _ | exact ((Below.refl _ _).alloc (Nat.le_refl _) _).drew | exact ((Below.refl _ _).drew).alloc (Nat.le_refl _) _ | exact ((Below.refl _ _).alloc (Nat.le_refl _) _).alloc (by simp) _ | exact (((Below.refl _ _).alloc (Nat.le_refl _) _).alloc (by simp) _).drew | exact (((Below.refl _ _).alloc (Nat.le_refl _) _).alloc (by simp) _).alloc (by simp; omega) _) hb
    replace HB := Lib.hid (step_below HB.out hbs)
    replace C := Lib.hid (C.out.below hbs C.out.lt)
    replace F := Lib.hid (F.out.below hbs F.out.lt)
    replace G := Lib.hid (G.out.below hbs G.out.lt)
    replace K := Lib.hid (K.out.below hbs K.out.lt)
    replace X := Lib.hid (X.out.below hbs)
    replace Y := Lib.hid (Y.out.below hbs)
    clear hbs
    rw [SL.out]
    go_wp2_with fail
    refine ⟨Mod.of_below hb, ?_⟩
    clear hb
    have r_C := C.out.row
    have o_C := C.out.open
    have l_C := C.out.lt
    have c_C := C.out.cell
    have z_C := C.out.frozen
    have r_F := F.out.row
    have o_F := F.out.open
    have l_F := F.out.lt
    have c_F := F.out.cell
    have z_F := F.out.frozen
    have r_G := G.out.row
    have o_G := G.out.open
    have l_G := G.out.lt
    have c_G := G.out.cell
    have z_G := G.out.frozen
    have r_K := K.out.row
    have o_K := K.out.open
    have l_K := K.out.lt
    have c_K := K.out.cell
    have z_K := K.out.frozen
    repeat (first
      | (refine sq_yes rfl (by rfl) (fun w' hM => by ((try replace hM := hM.of_drew); obtain ⟨hR1, hR2, hR3⟩ := hM.rules; clear hM; go_simp; with_reducible rfl)) ?_; simp only [Act.put, List.setIfInBounds_toArray, List.set_cons_zero, List.set_cons_succ])
      | (refine sq_no rfl (by rfl) ?_; simp only [Act.put, List.setIfInBounds_toArray, List.set_cons_zero, List.set_cons_succ]))
    clear r_C o_C l_C c_C z_C r_F o_F l_F c_F z_F r_G o_G l_G c_G z_G r_K o_K l_K c_K z_K
    refine sq_end ?_
    have r_C := C.out.row
    have o_C := C.out.open
    have l_C := C.out.lt
    have c_C := C.out.cell
    have z_C := C.out.frozen
    have r_F := F.out.row
    have o_F := F.out.open
    have l_F := F.out.lt
    have c_F := F.out.cell
    have z_F := F.out.frozen
    have r_G := G.out.row
    have o_G := G.out.open
    have l_G := G.out.lt
    have c_G := G.out.cell
    have z_G := G.out.frozen
    have r_K := K.out.row
    have o_K := K.out.open
    have l_K := K.out.lt
    have c_K := K.out.cell
    have z_K := K.out.frozen
    go_wp2_with fail
    clear r_C o_C l_C c_C z_C r_F o_F l_F c_F z_F r_G o_G l_G c_G z_G r_K o_K l_K c_K z_K
    clear q1 q3 q4 q5 q6 q7 hd1 hcs
    have hgp := guardP
    have hnp := neqP
    have hN4 : N ≤ 4 := by have := HN.out; omega
    
    go_loopw [19] (fun i wr => ∃ s : Nat, s ≤ N ∧ i = .int .i64 s ∧ At wr gc 29 (cc c) ∧ At wr gf 80 (fc c) ∧ At wr gg 80 (fc c) ∧ At wr gk 40 (kc k) ∧ Pls wr b1 N c k ∧ Pls wr b2 N c k ∧ Below w.heap.size w wr) (fun i _ => N - (intOf i).toNat)
    case atStart => exact ⟨0, Nat.zero_le _, rfl, C.out, F.out, G.out, K.out, X.out, Y.out, HB.out⟩
    case round =>
      obtain ⟨s, hs, rfl, hC_, hF_, hG_, hK_, hX_, hY_, hB_⟩ := hrel
      have C := Lib.hid hC_
      have F := Lib.hid hF_
      have G := Lib.hid hG_
      have K := Lib.hid hK_
      have X := Lib.hid hX_
      have Y := Lib.hid hY_
      have HB := Lib.hid hB_
      clear hC_ hF_ hG_ hK_ hX_ hY_ hB_
      by_cases hlt : s < N
      · have tt := trivial
        
        obtain ⟨bx, hbx, lx, hx⟩ := X.out (by omega)
        obtain ⟨by', hby, ly, hy⟩ := Y.out (by omega)
        obtain ⟨x0, x1⟩ := hx s hlt
        obtain ⟨y0, y1⟩ := hy s hlt
        subst hbx
        subst hby
        obtain ⟨ix, hix⟩ : ∃ x, x = idx c k s := ⟨_, rfl⟩
        have hb : 0 ≤ ix ∧ ix < c.size := by rw [hix]; exact ⟨Int.emod_nonneg _ (by omega), Int.emod_lt_of_pos _ (by omega)⟩
        have z1 : decide (ix < 0) = false := by simpa using hb.1
        have z2 : decide (c.size ≤ ix) = false := by simpa using hb.2
        rw [← hix] at x1 y1
        clear hx hy hix hb
        have r_C := C.out.row
        have o_C := C.out.open
        have l_C := C.out.lt
        have c_C := C.out.cell
        have z_C := C.out.frozen
        go_wp2_with fail
        clear r_C o_C l_C c_C z_C
        have r_C := C.out.row
        have o_C := C.out.open
        have l_C := C.out.lt
        have c_C := C.out.cell
        have z_C := C.out.frozen
        have r_F := F.out.row
        have o_F := F.out.open
        have l_F := F.out.lt
        have c_F := F.out.cell
        have z_F := F.out.frozen
        have r_G := G.out.row
        have o_G := G.out.open
        have l_G := G.out.lt
        have c_G := G.out.cell
        have z_G := G.out.frozen
        have r_K := K.out.row
        have o_K := K.out.open
        have l_K := K.out.lt
        have c_K := K.out.cell
        have z_K := K.out.frozen
        refine region_sq (fun _ => False) [(0, true), (1, true), (2, true), (3, true), (4, true), (5, true), (6, true), (7, true), (8, true), (9, true), (10, true), (11, true), (12, true), (13, true), (14, true), (15, true), (16, true), (17, true), (18, true), (19, true), (20, true), (21, true), (22, true), (23, true), (24, true), (25, true), (26, true), (27, true), (28, true), (29, true), (30, true), (31, true), (32, true), (33, true), (34, true), (35, true)] (by kernel_rfl) (by kernel_rfl) (fun _ _ d _ _ h => by cases d <;> exact h) ?_
        repeat (first
          | (refine sq_yes rfl (by rfl) (fun w' hM => by ((try replace hM := hM.of_drew); obtain ⟨hR1, hR2, hR3⟩ := hM.rules; clear hM; go_simp; with_reducible rfl)) ?_; simp only [Act.put, List.setIfInBounds_toArray, List.set_cons_zero, List.set_cons_succ])
          | (refine sq_no rfl (by rfl) ?_; simp only [Act.put, List.setIfInBounds_toArray, List.set_cons_zero, List.set_cons_succ]))
        clear r_C o_C l_C c_C z_C r_F o_F l_F c_F z_F r_G o_G l_G c_G z_G r_K o_K l_K c_K z_K
        replace C := Lib.hid C.out.drew
        replace F := Lib.hid F.out.drew
        replace G := Lib.hid G.out.drew
        replace K := Lib.hid K.out.drew
        replace X := Lib.hid X.out.drew
        replace Y := Lib.hid Y.out.drew
        replace HB := Lib.hid HB.out.drew
        generalize wr.drew = w18 at *
        refine sq_end ?_
        have r_C := C.out.row
        have o_C := C.out.open
        have l_C := C.out.lt
        have c_C := C.out.cell
        have z_C := C.out.frozen
        have r_F := F.out.row
        have o_F := F.out.open
        have l_F := F.out.lt
        have c_F := F.out.cell
        have z_F := F.out.frozen
        have r_G := G.out.row
        have o_G := G.out.open
        have l_G := G.out.lt
        have c_G := G.out.cell
        have z_G := G.out.frozen
        have r_K := K.out.row
        have o_K := K.out.open
        have l_K := K.out.lt
        have c_K := K.out.cell
        have z_K := K.out.frozen
        go_wp2_with fail
        clear r_C o_C l_C c_C z_C r_F o_F l_F c_F z_F r_G o_G l_G c_G z_G r_K o_K l_K c_K z_K
        go_roundw
        case rel => exact ⟨s + 1, by omega, by go_num, C.out, F.out, G.out, K.out, X.out, Y.out, HB.out⟩
        case measure => simp [intOf]; omega
        
      · obtain rfl : N = s := by omega
        clear X Y
        have r_C := C.out.row
        have o_C := C.out.open
        have l_C := C.out.lt
        have c_C := C.out.cell
        have z_C := C.out.frozen
        have r_F := F.out.row
        have o_F := F.out.open
        have l_F := F.out.lt
        have c_F := F.out.cell
        have z_F := F.out.frozen
        have r_G := G.out.row
        have o_G := G.out.open
        have l_G := G.out.lt
        have c_G := G.out.cell
        have z_G := G.out.frozen
        have r_K := K.out.row
        have o_K := K.out.open
        have l_K := K.out.lt
        have c_K := K.out.cell
        have z_K := K.out.frozen
        go_wp2_with fail
        clear r_C o_C l_C c_C z_C r_F o_F l_F c_F z_F r_G o_G l_G c_G z_G r_K o_K l_K c_K z_K
        refine (bits_any gf c k _ F.out e5.1 e5.2 e7).mono ?_
        rintro e w19 ⟨v, rfl, ho, hb⟩
        have hbs : Below wr.heap.size wr w19 := step_below (by first | exact Below.refl _ _ | exact (Below.refl _ _).drew | exact (Below.refl _ _).alloc (Nat.le_refl _) _ | exact ((Below.refl _ _).alloc (Nat.le_refl _) _).drew | exact ((Below.refl _ _).drew).alloc (Nat.le_refl _) _ | exact ((Below.refl _ _).alloc (Nat.le_refl _) _).alloc (by simp) _ | exact (((Below.refl _ _).alloc (Nat.le_refl _) _).alloc (by simp) _).drew | exact (((Below.refl _ _).alloc (Nat.le_refl _) _).alloc (by simp) _).alloc (by simp; omega) _) hb
        replace HB := Lib.hid (step_below HB.out hbs)
        replace C := Lib.hid (C.out.below hbs C.out.lt)
        replace F := Lib.hid (F.out.below hbs F.out.lt)
        replace G := Lib.hid (G.out.below hbs G.out.lt)
        replace K := Lib.hid (K.out.below hbs K.out.lt)
        clear hbs
        clear hb
        obtain ⟨b3, m3, q3, rfl, hm3, hy3, _⟩ := ho.parts
        have Z := Lib.hid hy3
        rw [bitsOf_length c k KV.out] at hm3
        have M3 := Lib.hid hm3
        have M3b : m3 ≤ 80 := by omega
        clear hm3 ho hy3
        have r_C := C.out.row
        have o_C := C.out.open
        have l_C := C.out.lt
        have c_C := C.out.cell
        have z_C := C.out.frozen
        have r_F := F.out.row
        have o_F := F.out.open
        have l_F := F.out.lt
        have c_F := F.out.cell
        have z_F := F.out.frozen
        have r_G := G.out.row
        have o_G := G.out.open
        have l_G := G.out.lt
        have c_G := G.out.cell
        have z_G := G.out.frozen
        have r_K := K.out.row
        have o_K := K.out.open
        have l_K := K.out.lt
        have c_K := K.out.cell
        have z_K := K.out.frozen
        go_wp2_with fail
        clear r_C o_C l_C c_C z_C r_F o_F l_F c_F z_F r_G o_G l_G c_G z_G r_K o_K l_K c_K z_K
        go_loopw [21] (fun i wr => ∃ t : Nat, t ≤ m3 ∧ i = .int .i64 t ∧ At wr gc 29 (cc c) ∧ At wr gf 80 (fc c) ∧ At wr gg 80 (fc c) ∧ At wr gk 40 (kc k) ∧ Ints wr b3 m3 (bitsOf c k) ∧ Below w.heap.size w wr) (fun i _ => m3 - (intOf i).toNat)
        case atStart => exact ⟨0, Nat.zero_le _, rfl, C.out, F.out, G.out, K.out, Z.out, HB.out⟩
        case round =>
          obtain ⟨t, ht, rfl, hC_, hF_, hG_, hK_, hZ_, hB_⟩ := hrel
          have C := Lib.hid hC_
          have F := Lib.hid hF_
          have G := Lib.hid hG_
          have K := Lib.hid hK_
          have Z := Lib.hid hZ_
          have HB := Lib.hid hB_
          clear hC_ hF_ hG_ hK_ hZ_ hB_
          by_cases htl : t < m3
          · have tt := trivial
            
            obtain ⟨b, o, rfl, lz, hz⟩ := Z.out.2 (by omega)
            have z0 := hz t htl
            obtain ⟨bx, hbx⟩ : ∃ x, x = (bitsOf c k).getD t 0 := ⟨_, rfl⟩
            have hbb : 0 ≤ bx ∧ bx < c.bloom := by
              rw [hbx]
              exact bitsOf_bounds c k t (by rw [bitsOf_length c k KV.out, ← M3.out]; exact htl) e7
            have z1 : decide (bx < 0) = false := by simpa using hbb.1
            have z2 : decide (c.bloom ≤ bx) = false := by simpa using hbb.2
            rw [← hbx] at z0
            clear hz hbx hbb
            have r_C := C.out.row
            have o_C := C.out.open
            have l_C := C.out.lt
            have c_C := C.out.cell
            have z_C := C.out.frozen
            go_wp2_with fail
            clear r_C o_C l_C c_C z_C
            have r_C := C.out.row
            have o_C := C.out.open
            have l_C := C.out.lt
            have c_C := C.out.cell
            have z_C := C.out.frozen
            have r_F := F.out.row
            have o_F := F.out.open
            have l_F := F.out.lt
            have c_F := F.out.cell
            have z_F := F.out.frozen
            have r_G := G.out.row
            have o_G := G.out.open
            have l_G := G.out.lt
            have c_G := G.out.cell
            have z_G := G.out.frozen
            have r_K := K.out.row
            have o_K := K.out.open
            have l_K := K.out.lt
            have c_K := K.out.cell
            have z_K := K.out.frozen
            refine region_sq (fun _ => False) [(0, true), (1, true), (2, true), (3, true), (4, true), (5, true), (6, true), (7, true), (8, true), (9, true), (10, true), (11, true), (12, true), (13, true)] (by kernel_rfl) (by kernel_rfl) (fun _ _ d _ _ h => by cases d <;> exact h) ?_
            repeat (first
              | (refine sq_yes rfl (by rfl) (fun w' hM => by ((try replace hM := hM.of_drew); obtain ⟨hR1, hR2, hR3⟩ := hM.rules; clear hM; go_simp; with_reducible rfl)) ?_; simp only [Act.put, List.setIfInBounds_toArray, List.set_cons_zero, List.set_cons_succ])
              | (refine sq_no rfl (by rfl) ?_; simp only [Act.put, List.setIfInBounds_toArray, List.set_cons_zero, List.set_cons_succ]))
            clear r_C o_C l_C c_C z_C r_F o_F l_F c_F z_F r_G o_G l_G c_G z_G r_K o_K l_K c_K z_K
            replace C := Lib.hid C.out.drew
            replace F := Lib.hid F.out.drew
            replace G := Lib.hid G.out.drew
            replace K := Lib.hid K.out.drew
            replace Z := Lib.hid Z.out.drew
            replace HB := Lib.hid HB.out.drew
            generalize wr.drew = w20 at *
            refine sq_end ?_
            have r_C := C.out.row
            have o_C := C.out.open
            have l_C := C.out.lt
            have c_C := C.out.cell
            have z_C := C.out.frozen
            have r_F := F.out.row
            have o_F := F.out.open
            have l_F := F.out.lt
            have c_F := F.out.cell
            have z_F := F.out.frozen
            have r_G := G.out.row
            have o_G := G.out.open
            have l_G := G.out.lt
            have c_G := G.out.cell
            have z_G := G.out.frozen
            have r_K := K.out.row
            have o_K := K.out.open
            have l_K := K.out.lt
            have c_K := K.out.cell
            have z_K := K.out.frozen
            go_wp2_with fail
            clear r_C o_C l_C c_C z_C r_F o_F l_F c_F z_F r_G o_G l_G c_G z_G r_K o_K l_K c_K z_K
            go_roundw
            case rel => exact ⟨t + 1, by omega, by go_num, C.out, F.out, G.out, K.out, Z.out, HB.out⟩
            case measure => simp [intOf]; omega
            
          · obtain rfl : m3 = t := by omega
            obtain ⟨hh, hhh⟩ : ∃ hh : Nat, c.hashes = hh := ⟨c.hashes.toNat, by omega⟩
            have hm4 : m3 = hh := by rw [M3.out, hhh]; rfl
            have BE := Lib.hid (show (bitsOf c k == bitsOf c k) = true by simp)
            have M3c : m3 ≤ 1000000 := by omega
            have HL := Lib.hid (bitsOf_length c k KV.out)
            subst hm4
            have r_C := C.out.row
            have o_C := C.out.open
            have l_C := C.out.lt
            have c_C := C.out.cell
            have z_C := C.out.frozen
            have r_F := F.out.row
            have o_F := F.out.open
            have l_F := F.out.lt
            have c_F := F.out.cell
            have z_F := F.out.frozen
            have r_G := G.out.row
            have o_G := G.out.open
            have l_G := G.out.lt
            have c_G := G.out.cell
            have z_G := G.out.frozen
            have r_K := K.out.row
            have o_K := K.out.open
            have l_K := K.out.lt
            have c_K := K.out.cell
            have z_K := K.out.frozen
            go_wp2_with fail
            clear r_C o_C l_C c_C z_C r_F o_F l_F c_F z_F r_G o_G l_G c_G z_G r_K o_K l_K c_K z_K
            refine (bits_any gg c k _ G.out e5.1 e5.2 e7).mono ?_
            rintro e w21 ⟨v, rfl, ho, hb⟩
            have hbs : Below wr.heap.size wr w21 := step_below (by first | exact Below.refl _ _ | exact (Below.refl _ _).drew | exact (Below.refl _ _).alloc (Nat.le_refl _) _ | exact ((Below.refl _ _).alloc (Nat.le_refl _) _).drew | exact ((Below.refl _ _).drew).alloc (Nat.le_refl _) _ | exact ((Below.refl _ _).alloc (Nat.le_refl _) _).alloc (by simp) _ | exact (((Below.refl _ _).alloc (Nat.le_refl _) _).alloc (by simp) _).drew | exact (((Below.refl _ _).alloc (Nat.le_refl _) _).alloc (by simp) _).alloc (by simp; omega) _) hb
            replace HB := Lib.hid (step_below HB.out hbs)
            replace C := Lib.hid (C.out.below hbs C.out.lt)
            replace F := Lib.hid (F.out.below hbs F.out.lt)
            replace G := Lib.hid (G.out.below hbs G.out.lt)
            replace K := Lib.hid (K.out.below hbs K.out.lt)
            replace Z := Lib.hid (Z.out.below hbs)
            clear hbs
            clear hb
            obtain ⟨b4, m4, q4, rfl, hm4, hy4, _⟩ := ho.parts
            have Y4 := Lib.hid hy4
            rw [HL.out] at hm4
            have M4 : m4 ≤ 1000000 := by omega
            clear hm4 ho hy4
            have r_C := C.out.row
            have o_C := C.out.open
            have l_C := C.out.lt
            have c_C := C.out.cell
            have z_C := C.out.frozen
            have r_F := F.out.row
            have o_F := F.out.open
            have l_F := F.out.lt
            have c_F := F.out.cell
            have z_F := F.out.frozen
            have r_G := G.out.row
            have o_G := G.out.open
            have l_G := G.out.lt
            have c_G := G.out.cell
            have z_G := G.out.frozen
            have r_K := K.out.row
            have o_K := K.out.open
            have l_K := K.out.lt
            have c_K := K.out.cell
            have z_K := K.out.frozen
            go_wp2_with fail
            clear r_C o_C l_C c_C z_C r_F o_F l_F c_F z_F r_G o_G l_G c_G z_G r_K o_K l_K c_K z_K
            refine (ints_any b3 m3 q3 _ b4 m4 q4 _ _ Z.out Y4.out M3c M4).mono ?_
            rintro e w22 ⟨rfl, hb⟩
            have hbs : Below w21.heap.size w21 w22 := step_below (by first | exact Below.refl _ _ | exact (Below.refl _ _).drew | exact (Below.refl _ _).alloc (Nat.le_refl _) _ | exact ((Below.refl _ _).alloc (Nat.le_refl _) _).drew | exact ((Below.refl _ _).drew).alloc (Nat.le_refl _) _ | exact ((Below.refl _ _).alloc (Nat.le_refl _) _).alloc (by simp) _ | exact (((Below.refl _ _).alloc (Nat.le_refl _) _).alloc (by simp) _).drew | exact (((Below.refl _ _).alloc (Nat.le_refl _) _).alloc (by simp) _).alloc (by simp; omega) _) hb
            replace HB := Lib.hid (step_below HB.out hbs)
            replace C := Lib.hid (C.out.below hbs C.out.lt)
            replace F := Lib.hid (F.out.below hbs F.out.lt)
            replace G := Lib.hid (G.out.below hbs G.out.lt)
            replace K := Lib.hid (K.out.below hbs K.out.lt)
            replace Z := Lib.hid (Z.out.below hbs)
            replace Y4 := Lib.hid (Y4.out.below hbs)
            clear hbs
            clear hb
            rw [BE.out]
            have r_C := C.out.row
            have o_C := C.out.open
            have l_C := C.out.lt
            have c_C := C.out.cell
            have z_C := C.out.frozen
            have r_F := F.out.row
            have o_F := F.out.open
            have l_F := F.out.lt
            have c_F := F.out.cell
            have z_F := F.out.frozen
            have r_G := G.out.row
            have o_G := G.out.open
            have l_G := G.out.lt
            have c_G := G.out.cell
            have z_G := G.out.frozen
            have r_K := K.out.row
            have o_K := K.out.open
            have l_K := K.out.lt
            have c_K := K.out.cell
            have z_K := K.out.frozen
            go_wp2_with fail
            clear r_C o_C l_C c_C z_C r_F o_F l_F c_F z_F r_G o_G l_G c_G z_G r_K o_K l_K c_K z_K
            refine (awake_any _).mono ?_
            rintro e w23 ⟨rfl, hb⟩
            have hbs : Below w22.heap.size w22 w23 := step_below (by first | exact Below.refl _ _ | exact (Below.refl _ _).drew | exact (Below.refl _ _).alloc (Nat.le_refl _) _ | exact ((Below.refl _ _).alloc (Nat.le_refl _) _).drew | exact ((Below.refl _ _).drew).alloc (Nat.le_refl _) _ | exact ((Below.refl _ _).alloc (Nat.le_refl _) _).alloc (by simp) _ | exact (((Below.refl _ _).alloc (Nat.le_refl _) _).alloc (by simp) _).drew | exact (((Below.refl _ _).alloc (Nat.le_refl _) _).alloc (by simp) _).alloc (by simp; omega) _) hb
            replace HB := Lib.hid (step_below HB.out hbs)
            replace C := Lib.hid (C.out.below hbs C.out.lt)
            replace F := Lib.hid (F.out.below hbs F.out.lt)
            replace G := Lib.hid (G.out.below hbs G.out.lt)
            replace K := Lib.hid (K.out.below hbs K.out.lt)
            replace Z := Lib.hid (Z.out.below hbs)
            replace Y4 := Lib.hid (Y4.out.below hbs)
            clear hbs
            clear hb
            go_wp2_with fail
            go_ret
            exact ⟨rfl, HB.out⟩
end Go.Proofs.Ytjjadakjkkmjgaa
