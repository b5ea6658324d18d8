/-
  Texts in one, each behind those that it needs: FamAwake, FamRows.
-/
import Derived.Test.YthfgccibiajneaaBaj
/-
  awake (chapter 13).
-/
namespace Go.Proofs.Ythfgccibiajneaa
open Go.RowKit
def cf0 : Cf := ⟨0, 0, 0, 0, 0, 0, 0, 0, 0, 0, 0, 0, false, adr0 false, adr0 false, 0, by omega⟩
theorem exec_bldC' (parts : Array (Nat × Operand)) (dst : Option Tmp) (ty : TypeId) (pos : String) (after : Array Edge) (g : Option (Nat × Bool)) (f : Operand → Value) (w : World) :
    (execOp f ⟨dst, .build 27 parts, ty, pos, after, g⟩).run Try.prog w = bldX Try.prog 27 (parts.map fun (i, x) => (i, f x)) w := rfl
attribute [local go_sem ↓] exec_bldC'
theorem build_zero (w : World) : bldX Try.prog 27 #[] w = .ok (.value (.agg (cc cf0))) w := bldX_of w (by kernel_rfl)
theorem cok_zero : cok cf0 = false := by kernel_rfl
theorem kvld_five : kvld (akey 5 false false) = true := by kernel_rfl
theorem cok_roomy : cok (roomy 1) = true := by kernel_rfl
theorem roomy_below (s : Int) (w : World) : Calls Try.prog 40 #[.int .i64 s] w fun e w' => e = .returned (.agg (cc (roomy s))) ∧ Below w.heap.size w w' :=
  (roomy_any s w).mono fun _ _ ⟨h1, h2⟩ => ⟨h1, h2 ▸ (Below.refl _ w).alloc (Nat.le_refl _) _⟩
set_option maxRecDepth 100000 in
set_option maxHeartbeats 8000000 in
theorem awake_any (w : World) : Calls Try.prog 15 #[] w fun e w' => e = .returned (.bool true) ∧ Below w.heap.size w w' := by
  have hbz := build_zero
  have hst := fun (w : World) (n : Nat) (Z : Array Value) (hn : n = w.heap.size) (hZ : Z.size = 48) => store_new (P := Try.prog) sizeC w n Z (cc (roomy 1)) hn hZ (cc_size _) (cc_one _)
  have hsk := fun (w : World) (n : Nat) (Z : Array Value) (hn : n = w.heap.size) (hZ : Z.size = 37) => store_new (P := Try.prog) sizeK w n Z (kc (akey 5 false false)) hn hZ (kc_size _) (kc_one _)
  have OK := Lib.hid cok_roomy
  have KV := Lib.hid kvld_five
  have KR := Lib.hid (fun w => roomy_below 1 w)
  have KK := Lib.hid (fun w => key_any 5 false false w)
  have hsts := Lib.hid (show (roomy 1).stages = 4 from rfl)
  have hsz := Lib.hid (show (roomy 1).size = 256 from rfl)
  have hdg := Lib.hid (show (roomy 1).digest = 16 from rfl)
  have hbl := Lib.hid (show (roomy 1).bloom = 65536 from rfl)
  have hha := Lib.hid (show (roomy 1).hashes = 4 from rfl)
  generalize roomy 1 = c at *
  have P0 := Lib.hid (show placeOf c (akey 5 false false) 0 = .tuple #[.agg #[.int .i64 0, .int .i64 (idx c (akey 5 false false) 0)], .bool true] from placeOf_yes c (akey 5 false false) 0 kvld_five (by rw [hsts.out]; decide))
  have P4 := Lib.hid (show placeOf c (akey 5 false false) 4 = .tuple #[.agg #[.int .i64 0, .int .i64 0], .bool false] from placeOf_no c (akey 5 false false) 4 (.inr (.inr (by rw [hsts.out]; decide))))
  have hz1 : (1 : Int) ≤ c.size := by rw [hsz.out]; decide
  have hz2 : c.size ≤ 1000000 := by rw [hsz.out]; decide
  have hst4 : c.stages ≤ 4 := by rw [hsts.out]; decide
  have hdd : 1 ≤ c.digest ∧ c.digest ≤ 16 := by rw [hdg.out]; decide
  have hhh : 0 ≤ c.hashes ∧ c.hashes ≤ 80 := by rw [hha.out]; decide
  have hb1 : 1 ≤ c.bloom := by rw [hbl.out]; decide
  have SL := Lib.hid (show slotOf c (akey 5 false false) 1 = 0 by unfold slotOf; split <;> omega)
  have BO := Lib.hid (show bitsOf c (akey 5 false false) = bitsUpto c (akey 5 false false) 4 by unfold bitsOf; rw [kvld_five, if_pos rfl, hha.out]; rfl)
  generalize akey 5 false false = k at *
  go_enter Try.func15, Try.ntmps15
  have HB := Lib.hid (Below.refl w.heap.size w)
  go_wp2_with fail
  refine (KR.out _).mono ?_
  rintro e w1 ⟨rfl, hb⟩
  have hbs : Below w.heap.size w w1 := step_below (by first | exact Below.refl _ _ | exact (Below.refl _ _).drew | exact (Below.refl _ _).alloc (Nat.le_refl _) _ | exact ((Below.refl _ _).alloc (Nat.le_refl _) _).drew | exact ((Below.refl _ _).drew).alloc (Nat.le_refl _) _ | exact ((Below.refl _ _).alloc (Nat.le_refl _) _).alloc (by simp) _ | exact (((Below.refl _ _).alloc (Nat.le_refl _) _).alloc (by simp) _).drew | exact (((Below.refl _ _).alloc (Nat.le_refl _) _).alloc (by simp) _).alloc (by simp; omega) _) hb
  replace HB := Lib.hid (step_below HB.out hbs)
  clear hbs
  clear hb
  go_wp2_with fail
  have HBp := HB
  have C := at_new w1 27 (cc c) _ rfl
  replace HB := Lib.hid (HB.out.alloc HB.out.size (.cells (cc c) 27))
  obtain ⟨gc, hg⟩ : ∃ g, g = w1.heap.size := ⟨_, rfl⟩
  have b_gc : w.heap.size ≤ gc := by rw [hg]; exact HBp.out.size
  rw [← hg] at C
  try rw [← hg]
  clear hg HBp
  replace C := Lib.hid C
  generalize w1.alloc (.cells (cc c) 27) = w2 at *
  have r_C := C.out.row
  have o_C := C.out.open
  have l_C := C.out.lt
  have c_C := C.out.cell
  have z_C := C.out.frozen
  go_wp2_with fail
  clear r_C o_C l_C c_C z_C
  refine (new_ok c _ OK.out).mono ?_
  rintro e w3 ⟨gf, rfl, hgf, hF, hb⟩
  have hbs : Below w2.heap.size w2 w3 := step_below (by first | exact Below.refl _ _ | exact (Below.refl _ _).drew | exact (Below.refl _ _).alloc (Nat.le_refl _) _ | exact ((Below.refl _ _).alloc (Nat.le_refl _) _).drew | exact ((Below.refl _ _).drew).alloc (Nat.le_refl _) _ | exact ((Below.refl _ _).alloc (Nat.le_refl _) _).alloc (by simp) _ | exact (((Below.refl _ _).alloc (Nat.le_refl _) _).alloc (by simp) _).drew | exact (((Below.refl _ _).alloc (Nat.le_refl _) _).alloc (by simp) _).alloc (by simp; omega) _) hb
  replace HB := Lib.hid (step_below HB.out hbs)
  replace C := Lib.hid (C.out.below hbs C.out.lt)
  clear hbs
  clear hb
  have F := Lib.hid hF
  clear hF
  
  have r_C := C.out.row
  have o_C := C.out.open
  have l_C := C.out.lt
  have c_C := C.out.cell
  have z_C := C.out.frozen
  have r_F := F.out.row
  have o_F := F.out.open
  have l_F := F.out.lt
  have c_F := F.out.cell
  have z_F := F.out.frozen
  go_wp2_with fail
  clear r_C o_C l_C c_C z_C r_F o_F l_F c_F z_F
  refine (new_bad cf0 _ cok_zero).mono ?_
  rintro e w4 ⟨rfl, hb⟩
  have hbs : Below w3.heap.size w3 w4 := step_below (by first | exact Below.refl _ _ | exact (Below.refl _ _).drew | exact (Below.refl _ _).alloc (Nat.le_refl _) _ | exact ((Below.refl _ _).alloc (Nat.le_refl _) _).drew | exact ((Below.refl _ _).drew).alloc (Nat.le_refl _) _ | exact ((Below.refl _ _).alloc (Nat.le_refl _) _).alloc (by simp) _ | exact (((Below.refl _ _).alloc (Nat.le_refl _) _).alloc (by simp) _).drew | exact (((Below.refl _ _).alloc (Nat.le_refl _) _).alloc (by simp) _).alloc (by simp; omega) _) hb
  replace HB := Lib.hid (step_below HB.out hbs)
  replace C := Lib.hid (C.out.below hbs C.out.lt)
  replace F := Lib.hid (F.out.below hbs F.out.lt)
  clear hbs
  clear hb
  have r_C := C.out.row
  have o_C := C.out.open
  have l_C := C.out.lt
  have c_C := C.out.cell
  have z_C := C.out.frozen
  have r_F := F.out.row
  have o_F := F.out.open
  have l_F := F.out.lt
  have c_F := F.out.cell
  have z_F := F.out.frozen
  go_wp2_with fail
  clear r_C o_C l_C c_C z_C r_F o_F l_F c_F z_F
  refine (KK.out _).mono ?_
  rintro e w5 ⟨rfl, hb⟩
  have hbs : Below w4.heap.size w4 w5 := step_below (by first | exact Below.refl _ _ | exact (Below.refl _ _).drew | exact (Below.refl _ _).alloc (Nat.le_refl _) _ | exact ((Below.refl _ _).alloc (Nat.le_refl _) _).drew | exact ((Below.refl _ _).drew).alloc (Nat.le_refl _) _ | exact ((Below.refl _ _).alloc (Nat.le_refl _) _).alloc (by simp) _ | exact (((Below.refl _ _).alloc (Nat.le_refl _) _).alloc (by simp) _).drew | exact (((Below.refl _ _).alloc (Nat.le_refl _) _).alloc (by simp) _).alloc (by simp; omega) _) hb
  replace HB := Lib.hid (step_below HB.out hbs)
  replace C := Lib.hid (C.out.below hbs C.out.lt)
  replace F := Lib.hid (F.out.below hbs F.out.lt)
  clear hbs
  clear hb
  go_wp2_with fail
  have HBp := HB
  have K := at_new w5 31 (kc k) _ rfl
  replace HB := Lib.hid (HB.out.alloc HB.out.size (.cells (kc k) 31))
  replace C := Lib.hid (C.out.alloc (.cells (kc k) 31))
  replace F := Lib.hid (F.out.alloc (.cells (kc k) 31))
  obtain ⟨gk, hg⟩ : ∃ g, g = w5.heap.size := ⟨_, rfl⟩
  have b_gk : w.heap.size ≤ gk := by rw [hg]; exact HBp.out.size
  rw [← hg] at K
  try rw [← hg]
  clear hg HBp
  replace K := Lib.hid K
  generalize w5.alloc (.cells (kc k) 31) = w6 at *
  have r_C := C.out.row
  have o_C := C.out.open
  have l_C := C.out.lt
  have c_C := C.out.cell
  have z_C := C.out.frozen
  have r_F := F.out.row
  have o_F := F.out.open
  have l_F := F.out.lt
  have c_F := F.out.cell
  have z_F := F.out.frozen
  have r_K := K.out.row
  have o_K := K.out.open
  have l_K := K.out.lt
  have c_K := K.out.cell
  have z_K := K.out.frozen
  go_wp2_with fail
  clear r_C o_C l_C c_C z_C r_F o_F l_F c_F z_F r_K o_K l_K c_K z_K
  refine (place_any gf c k 0 _ F.out hst4 hz1).mono ?_
  rintro e w7 ⟨rfl, hb⟩
  have hbs : Below w6.heap.size w6 w7 := step_below (by first | exact Below.refl _ _ | exact (Below.refl _ _).drew | exact (Below.refl _ _).alloc (Nat.le_refl _) _ | exact ((Below.refl _ _).alloc (Nat.le_refl _) _).drew | exact ((Below.refl _ _).drew).alloc (Nat.le_refl _) _ | exact ((Below.refl _ _).alloc (Nat.le_refl _) _).alloc (by simp) _ | exact (((Below.refl _ _).alloc (Nat.le_refl _) _).alloc (by simp) _).drew | exact (((Below.refl _ _).alloc (Nat.le_refl _) _).alloc (by simp) _).alloc (by simp; omega) _) hb
  replace HB := Lib.hid (step_below HB.out hbs)
  replace C := Lib.hid (C.out.below hbs C.out.lt)
  replace F := Lib.hid (F.out.below hbs F.out.lt)
  replace K := Lib.hid (K.out.below hbs K.out.lt)
  clear hbs
  clear hb
  rw [P0.out]
  have r_C := C.out.row
  have o_C := C.out.open
  have l_C := C.out.lt
  have c_C := C.out.cell
  have z_C := C.out.frozen
  have r_F := F.out.row
  have o_F := F.out.open
  have l_F := F.out.lt
  have c_F := F.out.cell
  have z_F := F.out.frozen
  have r_K := K.out.row
  have o_K := K.out.open
  have l_K := K.out.lt
  have c_K := K.out.cell
  have z_K := K.out.frozen
  go_wp2_with fail
  clear r_C o_C l_C c_C z_C r_F o_F l_F c_F z_F r_K o_K l_K c_K z_K
  have HBp := HB
  have P := at_new w7 41 (#[.int .i64 0, .int .i64 (idx c k 0)]) _ rfl
  replace HB := Lib.hid (HB.out.alloc HB.out.size (.cells (#[.int .i64 0, .int .i64 (idx c k 0)]) 41))
  replace C := Lib.hid (C.out.alloc (.cells (#[.int .i64 0, .int .i64 (idx c k 0)]) 41))
  replace F := Lib.hid (F.out.alloc (.cells (#[.int .i64 0, .int .i64 (idx c k 0)]) 41))
  replace K := Lib.hid (K.out.alloc (.cells (#[.int .i64 0, .int .i64 (idx c k 0)]) 41))
  obtain ⟨gp, hg⟩ : ∃ g, g = w7.heap.size := ⟨_, rfl⟩
  have b_gp : w.heap.size ≤ gp := by rw [hg]; exact HBp.out.size
  rw [← hg] at P
  try rw [← hg]
  clear hg HBp
  replace P := Lib.hid P
  generalize w7.alloc (.cells (#[.int .i64 0, .int .i64 (idx c k 0)]) 41) = w8 at *
  refine (place_any gf c k 4 _ F.out hst4 hz1).mono ?_
  rintro e w9 ⟨rfl, hb⟩
  have hbs : Below w8.heap.size w8 w9 := step_below (by first | exact Below.refl _ _ | exact (Below.refl _ _).drew | exact (Below.refl _ _).alloc (Nat.le_refl _) _ | exact ((Below.refl _ _).alloc (Nat.le_refl _) _).drew | exact ((Below.refl _ _).drew).alloc (Nat.le_refl _) _ | exact ((Below.refl _ _).alloc (Nat.le_refl _) _).alloc (by simp) _ | exact (((Below.refl _ _).alloc (Nat.le_refl _) _).alloc (by simp) _).drew | exact (((Below.refl _ _).alloc (Nat.le_refl _) _).alloc (by simp) _).alloc (by simp; omega) _) hb
  replace HB := Lib.hid (step_below HB.out hbs)
  replace C := Lib.hid (C.out.below hbs C.out.lt)
  replace F := Lib.hid (F.out.below hbs F.out.lt)
  replace K := Lib.hid (K.out.below hbs K.out.lt)
  replace P := Lib.hid (P.out.below hbs P.out.lt)
  clear hbs
  clear hb
  rw [P4.out]
  have r_C := C.out.row
  have o_C := C.out.open
  have l_C := C.out.lt
  have c_C := C.out.cell
  have z_C := C.out.frozen
  have r_F := F.out.row
  have o_F := F.out.open
  have l_F := F.out.lt
  have c_F := F.out.cell
  have z_F := F.out.frozen
  have r_K := K.out.row
  have o_K := K.out.open
  have l_K := K.out.lt
  have c_K := K.out.cell
  have z_K := K.out.frozen
  have r_P := P.out.row
  have o_P := P.out.open
  have l_P := P.out.lt
  have c_P := P.out.cell
  have z_P := P.out.frozen
  go_wp2_with fail
  clear r_C o_C l_C c_C z_C r_F o_F l_F c_F z_F r_K o_K l_K c_K z_K r_P o_P l_P c_P z_P
  have HBp := HB
  have Q := at_new w9 41 (#[.int .i64 0, .int .i64 0]) _ rfl
  replace HB := Lib.hid (HB.out.alloc HB.out.size (.cells (#[.int .i64 0, .int .i64 0]) 41))
  replace C := Lib.hid (C.out.alloc (.cells (#[.int .i64 0, .int .i64 0]) 41))
  replace F := Lib.hid (F.out.alloc (.cells (#[.int .i64 0, .int .i64 0]) 41))
  replace K := Lib.hid (K.out.alloc (.cells (#[.int .i64 0, .int .i64 0]) 41))
  replace P := Lib.hid (P.out.alloc (.cells (#[.int .i64 0, .int .i64 0]) 41))
  obtain ⟨gq, hg⟩ : ∃ g, g = w9.heap.size := ⟨_, rfl⟩
  have b_gq : w.heap.size ≤ gq := by rw [hg]; exact HBp.out.size
  rw [← hg] at Q
  try rw [← hg]
  clear hg HBp
  replace Q := Lib.hid Q
  generalize w9.alloc (.cells (#[.int .i64 0, .int .i64 0]) 41) = w10 at *
  have hgp := guardP
  have hep := eqlP
  have r_C := C.out.row
  have o_C := C.out.open
  have l_C := C.out.lt
  have c_C := C.out.cell
  have z_C := C.out.frozen
  have r_F := F.out.row
  have o_F := F.out.open
  have l_F := F.out.lt
  have c_F := F.out.cell
  have z_F := F.out.frozen
  have r_K := K.out.row
  have o_K := K.out.open
  have l_K := K.out.lt
  have c_K := K.out.cell
  have z_K := K.out.frozen
  have r_P := P.out.row
  have o_P := P.out.open
  have l_P := P.out.lt
  have c_P := P.out.cell
  have z_P := P.out.frozen
  have r_Q := Q.out.row
  have o_Q := Q.out.open
  have l_Q := Q.out.lt
  have c_Q := Q.out.cell
  have z_Q := Q.out.frozen
  refine region_sq (fun _ => False) [(0, true), (1, true), (2, true), (3, true), (4, true), (5, false), (6, true), (7, true), (8, true), (9, true), (10, true), (11, true), (12, true), (13, true), (14, true), (15, false), (16, true), (17, true), (18, true), (19, true), (20, true), (21, true), (23, true), (24, true), (22, false), (25, false), (26, true), (27, true), (28, true), (29, true), (30, true), (31, false), (32, true), (33, true), (34, true), (35, true), (36, false), (37, true), (38, true), (39, true), (40, true), (41, true), (42, false), (43, true), (44, true), (45, true), (46, true), (47, true), (48, false), (49, true), (50, true), (51, true), (52, true)] (by kernel_rfl) (by kernel_rfl) (fun _ _ d _ _ h => by cases d <;> exact h) ?_
  repeat (first
    | (refine sq_yes rfl (by rfl) (fun w' hM => by ((try replace hM := hM.of_drew); obtain ⟨hR1, hR2, hR3⟩ := hM.rules; clear hM; go_simp; with_reducible rfl)) ?_; simp only [Act.put, List.setIfInBounds_toArray, List.set_cons_zero, List.set_cons_succ])
    | (refine sq_no rfl (by rfl) ?_; simp only [Act.put, List.setIfInBounds_toArray, List.set_cons_zero, List.set_cons_succ]))
  clear r_C o_C l_C c_C z_C r_F o_F l_F c_F z_F r_K o_K l_K c_K z_K r_P o_P l_P c_P z_P r_Q o_Q l_Q c_Q z_Q
  refine sq_do_yes rfl (by rfl) (fun K_ hK_ => ?_)
  go_wp2_with fail
  refine (refPlace_any c k 0 (by omega) hz1 hz2 _).mono ?_
  rintro e w11 ⟨rfl, hb⟩
  have hbs : Below w10.heap.size w10 w11 := step_below (by first | exact Below.refl _ _ | exact (Below.refl _ _).drew | exact (Below.refl _ _).alloc (Nat.le_refl _) _ | exact ((Below.refl _ _).alloc (Nat.le_refl _) _).drew | exact ((Below.refl _ _).drew).alloc (Nat.le_refl _) _ | exact ((Below.refl _ _).alloc (Nat.le_refl _) _).alloc (by simp) _ | exact (((Below.refl _ _).alloc (Nat.le_refl _) _).alloc (by simp) _).drew | exact (((Below.refl _ _).alloc (Nat.le_refl _) _).alloc (by simp) _).alloc (by simp; omega) _) hb
  replace HB := Lib.hid (step_below HB.out hbs)
  replace C := Lib.hid (C.out.below hbs C.out.lt)
  replace F := Lib.hid (F.out.below hbs F.out.lt)
  replace K := Lib.hid (K.out.below hbs K.out.lt)
  replace P := Lib.hid (P.out.below hbs P.out.lt)
  replace Q := Lib.hid (Q.out.below hbs Q.out.lt)
  clear hbs
  go_wp2_with fail
  refine ⟨Mod.of_below hb, ?_⟩
  clear hb
  have r_C := C.out.row
  have o_C := C.out.open
  have l_C := C.out.lt
  have c_C := C.out.cell
  have z_C := C.out.frozen
  have r_F := F.out.row
  have o_F := F.out.open
  have l_F := F.out.lt
  have c_F := F.out.cell
  have z_F := F.out.frozen
  have r_K := K.out.row
  have o_K := K.out.open
  have l_K := K.out.lt
  have c_K := K.out.cell
  have z_K := K.out.frozen
  have r_P := P.out.row
  have o_P := P.out.open
  have l_P := P.out.lt
  have c_P := P.out.cell
  have z_P := P.out.frozen
  have r_Q := Q.out.row
  have o_Q := Q.out.open
  have l_Q := Q.out.lt
  have c_Q := Q.out.cell
  have z_Q := Q.out.frozen
  repeat (first
    | (refine sq_yes rfl (by rfl) (fun w' hM => by ((try replace hM := hM.of_drew); obtain ⟨hR1, hR2, hR3⟩ := hM.rules; clear hM; go_simp; with_reducible rfl)) ?_; simp only [Act.put, List.setIfInBounds_toArray, List.set_cons_zero, List.set_cons_succ])
    | (refine sq_no rfl (by rfl) ?_; simp only [Act.put, List.setIfInBounds_toArray, List.set_cons_zero, List.set_cons_succ]))
  clear r_C o_C l_C c_C z_C r_F o_F l_F c_F z_F r_K o_K l_K c_K z_K r_P o_P l_P c_P z_P r_Q o_Q l_Q c_Q z_Q
  refine sq_do_yes rfl (by rfl) (fun K_ hK_ => ?_)
  go_wp2_with fail
  refine (bits_any gf c k _ F.out hhh.1 hhh.2 hb1).mono ?_
  rintro e w12 ⟨v, rfl, ho, hb⟩
  have hbs : Below w11.heap.size w11 w12 := step_below (by first | exact Below.refl _ _ | exact (Below.refl _ _).drew | exact (Below.refl _ _).alloc (Nat.le_refl _) _ | exact ((Below.refl _ _).alloc (Nat.le_refl _) _).drew | exact ((Below.refl _ _).drew).alloc (Nat.le_refl _) _ | exact ((Below.refl _ _).alloc (Nat.le_refl _) _).alloc (by simp) _ | exact (((Below.refl _ _).alloc (Nat.le_refl _) _).alloc (by simp) _).drew | exact (((Below.refl _ _).alloc (Nat.le_refl _) _).alloc (by simp) _).alloc (by simp; omega) _) hb
  replace HB := Lib.hid (step_below HB.out hbs)
  replace C := Lib.hid (C.out.below hbs C.out.lt)
  replace F := Lib.hid (F.out.below hbs F.out.lt)
  replace K := Lib.hid (K.out.below hbs K.out.lt)
  replace P := Lib.hid (P.out.below hbs P.out.lt)
  replace Q := Lib.hid (Q.out.below hbs Q.out.lt)
  clear hbs
  obtain ⟨a1, n1, c1, rfl, hn1, _, _⟩ := ho.parts
  rw [BO.out, bitsUpto_length] at hn1
  subst hn1
  clear ho
  go_wp2_with fail
  refine ⟨Mod.of_below hb, ?_⟩
  clear hb
  have r_C := C.out.row
  have o_C := C.out.open
  have l_C := C.out.lt
  have c_C := C.out.cell
  have z_C := C.out.frozen
  have r_F := F.out.row
  have o_F := F.out.open
  have l_F := F.out.lt
  have c_F := F.out.cell
  have z_F := F.out.frozen
  have r_K := K.out.row
  have o_K := K.out.open
  have l_K := K.out.lt
  have c_K := K.out.cell
  have z_K := K.out.frozen
  have r_P := P.out.row
  have o_P := P.out.open
  have l_P := P.out.lt
  have c_P := P.out.cell
  have z_P := P.out.frozen
  have r_Q := Q.out.row
  have o_Q := Q.out.open
  have l_Q := Q.out.lt
  have c_Q := Q.out.cell
  have z_Q := Q.out.frozen
  repeat (first
    | (refine sq_yes rfl (by rfl) (fun w' hM => by ((try replace hM := hM.of_drew); obtain ⟨hR1, hR2, hR3⟩ := hM.rules; clear hM; go_simp; with_reducible rfl)) ?_; simp only [Act.put, List.setIfInBounds_toArray, List.set_cons_zero, List.set_cons_succ])
    | (refine sq_no rfl (by rfl) ?_; simp only [Act.put, List.setIfInBounds_toArray, List.set_cons_zero, List.set_cons_succ]))
  clear r_C o_C l_C c_C z_C r_F o_F l_F c_F z_F r_K o_K l_K c_K z_K r_P o_P l_P c_P z_P r_Q o_Q l_Q c_Q z_Q
  refine sq_do_yes rfl (by rfl) (fun K_ hK_ => ?_)
  go_wp2_with fail
  refine (digest_any gf c k _ F.out hdd.1 hdd.2).mono ?_
  rintro e w13 ⟨rfl, hb⟩
  have hbs : Below w12.heap.size w12 w13 := step_below (by first | exact Below.refl _ _ | exact (Below.refl _ _).drew | exact (Below.refl _ _).alloc (Nat.le_refl _) _ | exact ((Below.refl _ _).alloc (Nat.le_refl _) _).drew | exact ((Below.refl _ _).drew).alloc (Nat.le_refl _) _ | exact ((Below.refl _ _).alloc (Nat.le_refl _) _).alloc (by simp) _ | exact (((Below.refl _ _).alloc (Nat.le_refl _) _).alloc (by simp) _).drew | exact (((Below.refl _ _).alloc (Nat.le_refl _) _).alloc (by simp) _).alloc (by simp; omega) _) hb
  replace HB := Lib.hid (step_below HB.out hbs)
  replace C := Lib.hid (C.out.below hbs C.out.lt)
  replace F := Lib.hid (F.out.below hbs F.out.lt)
  replace K := Lib.hid (K.out.below hbs K.out.lt)
  replace P := Lib.hid (P.out.below hbs P.out.lt)
  replace Q := Lib.hid (Q.out.below hbs Q.out.lt)
  clear hbs
  go_wp2_with fail
  refine ⟨Mod.of_below hb, ?_⟩
  clear hb
  have r_C := C.out.row
  have o_C := C.out.open
  have l_C := C.out.lt
  have c_C := C.out.cell
  have z_C := C.out.frozen
  have r_F := F.out.row
  have o_F := F.out.open
  have l_F := F.out.lt
  have c_F := F.out.cell
  have z_F := F.out.frozen
  have r_K := K.out.row
  have o_K := K.out.open
  have l_K := K.out.lt
  have c_K := K.out.cell
  have z_K := K.out.frozen
  have r_P := P.out.row
  have o_P := P.out.open
  have l_P := P.out.lt
  have c_P := P.out.cell
  have z_P := P.out.frozen
  have r_Q := Q.out.row
  have o_Q := Q.out.open
  have l_Q := Q.out.lt
  have c_Q := Q.out.cell
  have z_Q := Q.out.frozen
  repeat (first
    | (refine sq_yes rfl (by rfl) (fun w' hM => by ((try replace hM := hM.of_drew); obtain ⟨hR1, hR2, hR3⟩ := hM.rules; clear hM; go_simp; with_reducible rfl)) ?_; simp only [Act.put, List.setIfInBounds_toArray, List.set_cons_zero, List.set_cons_succ])
    | (refine sq_no rfl (by rfl) ?_; simp only [Act.put, List.setIfInBounds_toArray, List.set_cons_zero, List.set_cons_succ]))
  clear r_C o_C l_C c_C z_C r_F o_F l_F c_F z_F r_K o_K l_K c_K z_K r_P o_P l_P c_P z_P r_Q o_Q l_Q c_Q z_Q
  refine sq_do_yes rfl (by rfl) (fun K_ hK_ => ?_)
  go_wp2_with fail
  refine (refDigest_any c k _ hdd.1 hdd.2).mono ?_
  rintro e w14 ⟨rfl, hb⟩
  have hbs : Below w13.heap.size w13 w14 := step_below (by first | exact Below.refl _ _ | exact (Below.refl _ _).drew | exact (Below.refl _ _).alloc (Nat.le_refl _) _ | exact ((Below.refl _ _).alloc (Nat.le_refl _) _).drew | exact ((Below.refl _ _).drew).alloc (Nat.le_refl _) _ | exact ((Below.refl _ _).alloc (Nat.le_refl _) _).alloc (by simp) _ | exact (((Below.refl _ _).alloc (Nat.le_refl _) _).alloc (by simp) _).drew | exact (((Below.refl _ _).alloc (Nat.le_refl _) _).alloc (by simp) _).alloc (by simp; omega) _) hb
  replace HB := Lib.hid (step_below HB.out hbs)
  replace C := Lib.hid (C.out.below hbs C.out.lt)
  replace F := Lib.hid (F.out.below hbs F.out.lt)
  replace K := Lib.hid (K.out.below hbs K.out.lt)
  replace P := Lib.hid (P.out.below hbs P.out.lt)
  replace Q := Lib.hid (Q.out.below hbs Q.out.lt)
  clear hbs
  go_wp2_with fail
  refine ⟨Mod.of_below hb, ?_⟩
  clear hb
  have r_C := C.out.row
  have o_C := C.out.open
  have l_C := C.out.lt
  have c_C := C.out.cell
  have z_C := C.out.frozen
  have r_F := F.out.row
  have o_F := F.out.open
  have l_F := F.out.lt
  have c_F := F.out.cell
  have z_F := F.out.frozen
  have r_K := K.out.row
  have o_K := K.out.open
  have l_K := K.out.lt
  have c_K := K.out.cell
  have z_K := K.out.frozen
  have r_P := P.out.row
  have o_P := P.out.open
  have l_P := P.out.lt
  have c_P := P.out.cell
  have z_P := P.out.frozen
  have r_Q := Q.out.row
  have o_Q := Q.out.open
  have l_Q := Q.out.lt
  have c_Q := Q.out.cell
  have z_Q := Q.out.frozen
  repeat (first
    | (refine sq_yes rfl (by rfl) (fun w' hM => by ((try replace hM := hM.of_drew); obtain ⟨hR1, hR2, hR3⟩ := hM.rules; clear hM; go_simp; with_reducible rfl)) ?_; simp only [Act.put, List.setIfInBounds_toArray, List.set_cons_zero, List.set_cons_succ])
    | (refine sq_no rfl (by rfl) ?_; simp only [Act.put, List.setIfInBounds_toArray, List.set_cons_zero, List.set_cons_succ]))
  clear r_C o_C l_C c_C z_C r_F o_F l_F c_F z_F r_K o_K l_K c_K z_K r_P o_P l_P c_P z_P r_Q o_Q l_Q c_Q z_Q
  refine sq_do_yes rfl (by rfl) (fun K_ hK_ => ?_)
  go_wp2_with fail
  refine (slot_any gf c k 1 _ F.out).mono ?_
  rintro e w15 ⟨rfl, hb⟩
  have hbs : Below w14.heap.size w14 w15 := step_below (by first | exact Below.refl _ _ | exact (Below.refl _ _).drew | exact (Below.refl _ _).alloc (Nat.le_refl _) _ | exact ((Below.refl _ _).alloc (Nat.le_refl _) _).drew | exact ((Below.refl _ _).drew).alloc (Nat.le_refl _) _ | exact ((Below.refl _ _).alloc (Nat.le_refl _) _).alloc (by simp) _ | exact (((Below.refl _ _).alloc (Nat.le_refl _) _).alloc (by simp) _).drew | exact (((Below.refl _ _).alloc (Nat.le_refl _) _).alloc (by simp) _).alloc (by simp; omega) _) hb
  replace HB := Lib.hid (step_below HB.out hbs)
  replace C := Lib.hid (C.out.below hbs C.out.lt)
  replace F := Lib.hid (F.out.below hbs F.out.lt)
  replace K := Lib.hid (K.out.below hbs K.out.lt)
  replace P := Lib.hid (P.out.below hbs P.out.lt)
  replace Q := Lib.hid (Q.out.below hbs Q.out.lt)
  clear hbs
  rw [SL.out]
  go_wp2_with fail
  refine ⟨Mod.of_below hb, ?_⟩
  clear hb
  have r_C := C.out.row
  have o_C := C.out.open
  have l_C := C.out.lt
  have c_C := C.out.cell
  have z_C := C.out.frozen
  have r_F := F.out.row
  have o_F := F.out.open
  have l_F := F.out.lt
  have c_F := F.out.cell
  have z_F := F.out.frozen
  have r_K := K.out.row
  have o_K := K.out.open
  have l_K := K.out.lt
  have c_K := K.out.cell
  have z_K := K.out.frozen
  have r_P := P.out.row
  have o_P := P.out.open
  have l_P := P.out.lt
  have c_P := P.out.cell
  have z_P := P.out.frozen
  have r_Q := Q.out.row
  have o_Q := Q.out.open
  have l_Q := Q.out.lt
  have c_Q := Q.out.cell
  have z_Q := Q.out.frozen
  repeat (first
    | (refine sq_yes rfl (by rfl) (fun w' hM => by ((try replace hM := hM.of_drew); obtain ⟨hR1, hR2, hR3⟩ := hM.rules; clear hM; go_simp; with_reducible rfl)) ?_; simp only [Act.put, List.setIfInBounds_toArray, List.set_cons_zero, List.set_cons_succ])
    | (refine sq_no rfl (by rfl) ?_; simp only [Act.put, List.setIfInBounds_toArray, List.set_cons_zero, List.set_cons_succ]))
  clear r_C o_C l_C c_C z_C r_F o_F l_F c_F z_F r_K o_K l_K c_K z_K r_P o_P l_P c_P z_P r_Q o_Q l_Q c_Q z_Q
  refine sq_do_yes rfl (by rfl) (fun K_ hK_ => ?_)
  go_wp2_with fail
  refine (check_any c _).mono ?_
  rintro e w16 ⟨rfl, hb⟩
  have hbs : Below w15.heap.size w15 w16 := step_below (by first | exact Below.refl _ _ | exact (Below.refl _ _).drew | exact (Below.refl _ _).alloc (Nat.le_refl _) _ | exact ((Below.refl _ _).alloc (Nat.le_refl _) _).drew | exact ((Below.refl _ _).drew).alloc (Nat.le_refl _) _ | exact ((Below.refl _ _).alloc (Nat.le_refl _) _).alloc (by simp) _ | exact (((Below.refl _ _).alloc (Nat.le_refl _) _).alloc (by simp) _).drew | exact (((Below.refl _ _).alloc (Nat.le_refl _) _).alloc (by simp) _).alloc (by simp; omega) _) hb
  replace HB := Lib.hid (step_below HB.out hbs)
  replace C := Lib.hid (C.out.below hbs C.out.lt)
  replace F := Lib.hid (F.out.below hbs F.out.lt)
  replace K := Lib.hid (K.out.below hbs K.out.lt)
  replace P := Lib.hid (P.out.below hbs P.out.lt)
  replace Q := Lib.hid (Q.out.below hbs Q.out.lt)
  clear hbs
  rw [chk_yes c OK.out]
  go_wp2_with fail
  refine ⟨Mod.of_below hb, ?_⟩
  clear hb
  have r_C := C.out.row
  have o_C := C.out.open
  have l_C := C.out.lt
  have c_C := C.out.cell
  have z_C := C.out.frozen
  have r_F := F.out.row
  have o_F := F.out.open
  have l_F := F.out.lt
  have c_F := F.out.cell
  have z_F := F.out.frozen
  have r_K := K.out.row
  have o_K := K.out.open
  have l_K := K.out.lt
  have c_K := K.out.cell
  have z_K := K.out.frozen
  have r_P := P.out.row
  have o_P := P.out.open
  have l_P := P.out.lt
  have c_P := P.out.cell
  have z_P := P.out.frozen
  have r_Q := Q.out.row
  have o_Q := Q.out.open
  have l_Q := Q.out.lt
  have c_Q := Q.out.cell
  have z_Q := Q.out.frozen
  repeat (first
    | (refine sq_yes rfl (by rfl) (fun w' hM => by ((try replace hM := hM.of_drew); obtain ⟨hR1, hR2, hR3⟩ := hM.rules; clear hM; go_simp; with_reducible rfl)) ?_; simp only [Act.put, List.setIfInBounds_toArray, List.set_cons_zero, List.set_cons_succ])
    | (refine sq_no rfl (by rfl) ?_; simp only [Act.put, List.setIfInBounds_toArray, List.set_cons_zero, List.set_cons_succ]))
  clear r_C o_C l_C c_C z_C r_F o_F l_F c_F z_F r_K o_K l_K c_K z_K r_P o_P l_P c_P z_P r_Q o_Q l_Q c_Q z_Q
  refine sq_do_yes rfl (by rfl) (fun K_ hK_ => ?_)
  go_wp2_with fail
  refine (digest_nil k _).mono ?_
  rintro e w17 ⟨rfl, hb⟩
  have hbs : Below w16.heap.size w16 w17 := step_below (by first | exact Below.refl _ _ | exact (Below.refl _ _).drew | exact (Below.refl _ _).alloc (Nat.le_refl _) _ | exact ((Below.refl _ _).alloc (Nat.le_refl _) _).drew | exact ((Below.refl _ _).drew).alloc (Nat.le_refl _) _ | exact ((Below.refl _ _).alloc (Nat.le_refl _) _).alloc (by simp) _ | exact (((Below.refl _ _).alloc (Nat.le_refl _) _).alloc (by simp) _).drew | exact (((Below.refl _ _).alloc (Nat.le_refl _) _).alloc (by simp) _).alloc (by simp; omega) _) hb
  replace HB := Lib.hid (step_below HB.out hbs)
  replace C := Lib.hid (C.out.below hbs C.out.lt)
  replace F := Lib.hid (F.out.below hbs F.out.lt)
  replace K := Lib.hid (K.out.below hbs K.out.lt)
  replace P := Lib.hid (P.out.below hbs P.out.lt)
  replace Q := Lib.hid (Q.out.below hbs Q.out.lt)
  clear hbs
  go_wp2_with fail
  refine ⟨Mod.of_below hb, ?_⟩
  clear hb
  have r_C := C.out.row
  have o_C := C.out.open
  have l_C := C.out.lt
  have c_C := C.out.cell
  have z_C := C.out.frozen
  have r_F := F.out.row
  have o_F := F.out.open
  have l_F := F.out.lt
  have c_F := F.out.cell
  have z_F := F.out.frozen
  have r_K := K.out.row
  have o_K := K.out.open
  have l_K := K.out.lt
  have c_K := K.out.cell
  have z_K := K.out.frozen
  have r_P := P.out.row
  have o_P := P.out.open
  have l_P := P.out.lt
  have c_P := P.out.cell
  have z_P := P.out.frozen
  have r_Q := Q.out.row
  have o_Q := Q.out.open
  have l_Q := Q.out.lt
  have c_Q := Q.out.cell
  have z_Q := Q.out.frozen
  repeat (first
    | (refine sq_yes rfl (by rfl) (fun w' hM => by ((try replace hM := hM.of_drew); obtain ⟨hR1, hR2, hR3⟩ := hM.rules; clear hM; go_simp; with_reducible rfl)) ?_; simp only [Act.put, List.setIfInBounds_toArray, List.set_cons_zero, List.set_cons_succ])
    | (refine sq_no rfl (by rfl) ?_; simp only [Act.put, List.setIfInBounds_toArray, List.set_cons_zero, List.set_cons_succ]))
  clear r_C o_C l_C c_C z_C r_F o_F l_F c_F z_F r_K o_K l_K c_K z_K r_P o_P l_P c_P z_P r_Q o_Q l_Q c_Q z_Q
  refine sq_do_yes rfl (by rfl) (fun K_ hK_ => ?_)
  go_wp2_with fail
  refine (bits_nil k _).mono ?_
  rintro e w18 ⟨rfl, hb⟩
  have hbs : Below w17.heap.size w17 w18 := step_below (by first | exact Below.refl _ _ | exact (Below.refl _ _).drew | exact (Below.refl _ _).alloc (Nat.le_refl _) _ | exact ((Below.refl _ _).alloc (Nat.le_refl _) _).drew | exact ((Below.refl _ _).drew).alloc (Nat.le_refl _) _ | exact ((Below.refl _ _).alloc (Nat.le_refl _) _).alloc (by simp) _ | exact (((Below.refl _ _).alloc (Nat.le_refl _) _).alloc (by simp) _).drew | exact (((Below.refl _ _).alloc (Nat.le_refl _) _).alloc (by simp) _).alloc (by simp; omega) _) hb
  replace HB := Lib.hid (step_below HB.out hbs)
  replace C := Lib.hid (C.out.below hbs C.out.lt)
  replace F := Lib.hid (F.out.below hbs F.out.lt)
  replace K := Lib.hid (K.out.below hbs K.out.lt)
  replace P := Lib.hid (P.out.below hbs P.out.lt)
  replace Q := Lib.hid (Q.out.below hbs Q.out.lt)
  clear hbs
  go_wp2_with fail
  refine ⟨Mod.of_below hb, ?_⟩
  clear hb
  have r_C := C.out.row
  have o_C := C.out.open
  have l_C := C.out.lt
  have c_C := C.out.cell
  have z_C := C.out.frozen
  have r_F := F.out.row
  have o_F := F.out.open
  have l_F := F.out.lt
  have c_F := F.out.cell
  have z_F := F.out.frozen
  have r_K := K.out.row
  have o_K := K.out.open
  have l_K := K.out.lt
  have c_K := K.out.cell
  have z_K := K.out.frozen
  have r_P := P.out.row
  have o_P := P.out.open
  have l_P := P.out.lt
  have c_P := P.out.cell
  have z_P := P.out.frozen
  have r_Q := Q.out.row
  have o_Q := Q.out.open
  have l_Q := Q.out.lt
  have c_Q := Q.out.cell
  have z_Q := Q.out.frozen
  repeat (first
    | (refine sq_yes rfl (by rfl) (fun w' hM => by ((try replace hM := hM.of_drew); obtain ⟨hR1, hR2, hR3⟩ := hM.rules; clear hM; go_simp; with_reducible rfl)) ?_; simp only [Act.put, List.setIfInBounds_toArray, List.set_cons_zero, List.set_cons_succ])
    | (refine sq_no rfl (by rfl) ?_; simp only [Act.put, List.setIfInBounds_toArray, List.set_cons_zero, List.set_cons_succ]))
  clear r_C o_C l_C c_C z_C r_F o_F l_F c_F z_F r_K o_K l_K c_K z_K r_P o_P l_P c_P z_P r_Q o_Q l_Q c_Q z_Q
  refine sq_end ?_
  go_wp2_with fail
  go_ret
  exact ⟨rfl, HB.out⟩
end Go.Proofs.Ythfgccibiajneaa

/-
  Slices of integers that come in; a small configuration may be.
-/
namespace Go.Proofs.Ythfgccibiajneaa
open Go.RowKit
/-- What a walk is told of a slice of integers that came in: nil, or a row of 'cap' cells, the numbers 'zs'. -/
def IsRow (k : IntKind) (w : World) (a : Option Addr) (len cap : Nat) (zs : List Int) : Prop :=
  (a = none ∧ len = 0 ∧ cap = 0 ∧ zs = []) ∨
  ∃ x, a = some x ∧ len ≤ cap ∧ cap ≤ maxLen ∧ zs.length = cap ∧ (∀ i, i < zs.length → w.cell? (x.add i) = some (.int k (zs.getD i 0))) ∧ ∀ n ∈ zs, (Lit.int k n).wf = true
theorem cell_spot {w : World} {a : Addr} {v : Value} (h : w.cell? a = some v) : a.spot = none ∧ a.block < w.heap.size := by
  refine ⟨?_, World.block_lt_of_cell? _ _ h⟩
  unfold World.cell? at h
  split at h
  · split at h
    · cases h
    · rename_i hs; simpa using hs
  · cases h
theorem IsRow.ints {w : World} {a : Option Addr} {len cap : Nat} {zs : List Int} (h : IsRow .i64 w a len cap zs) : Ints w a len (zs.take len) ∧ len ≤ maxLen ∧ ∀ n ∈ zs.take len, (Lit.int .i64 n).wf = true := by
  rcases h with ⟨rfl, rfl, rfl, rfl⟩ | ⟨x, rfl, h1, h2, h3, h4, h5⟩
  · exact ⟨⟨rfl, fun h => by omega⟩, by unfold maxLen; omega, fun n hn => by simp at hn⟩
  · refine ⟨⟨by simp; omega, fun hpos => ?_⟩, by omega, fun n hn => h5 n (List.mem_of_mem_take hn)⟩
    have h0 := h4 0 (by omega)
    rw [show x.add 0 = x from by simp [Addr.add]] at h0
    obtain ⟨hs, hb⟩ := cell_spot h0
    obtain ⟨b, o, s⟩ := x
    simp only at hs hb
    subst hs
    refine ⟨b, o, rfl, hb, fun i hi => ?_⟩
    have := h4 i (by omega)
    have hadd : (⟨b, o, none⟩ : Addr).add i = ⟨b, o + i, none⟩ := by unfold Addr.add; split <;> simp_all
    rw [hadd] at this
    rw [this]
    simp [List.getD_eq_getElem?_getD, hi]
theorem pow_fact (k x : Nat) (hk : k = 2 ∨ k = 8) (hx : x < 6) : (k : Int) ≤ (k : Int) * 2 ^ x ∧ (k : Int) * 2 ^ x ≤ (k : Int) * 32 ∧ (bits .and .i64 ((k : Int) * 2 ^ x) (wrap64 ((k : Int) * 2 ^ x - 1)) == 0) = true := by
  have : x = 0 ∨ x = 1 ∨ x = 2 ∨ x = 3 ∨ x = 4 ∨ x = 5 := by omega
  rcases hk with rfl | rfl <;> rcases this with rfl | rfl | rfl | rfl | rfl | rfl <;> exact ⟨by decide, by decide, by kernel_rfl⟩
theorem wi_of {n low high : Int} (h1 : low ≤ n) (h2 : n ≤ high) : wi n low high = true := wi_iff.2 ⟨h1, h2⟩
/-- What a configuration's numbers are, when it may be. -/
structure Fits (c : Cf) : Prop where
  st : 1 ≤ c.stages ∧ c.stages ≤ 4
  sz : 2 ≤ c.size ∧ c.size ≤ 1024
  dg : 1 ≤ c.digest ∧ c.digest ≤ 16
  bl : 8 ≤ c.bloom ∧ c.bloom ≤ 65536
  ha : 1 ≤ c.hashes ∧ c.hashes ≤ 4
theorem fits_of {c : Cf} (h : cok c = true) : Fits c := by
  simp only [cok, sizesOk, pw, Bool.and_eq_true, wi_iff] at h
  obtain ⟨⟨⟨⟨⟨⟨⟨h1, h2⟩, h3⟩, h4⟩, h5⟩, _⟩, _⟩, _⟩ := h
  exact ⟨h1, h2.1, h3, h4.1, h5⟩
theorem cok_config (l : List Int) : cok (config l) = true := by
  have b0 := atOf_bounds l 0 4 (by omega)
  have b1 := atOf_bounds l 1 6 (by omega)
  have b2 := atOf_bounds l 2 16 (by omega)
  have b3 := atOf_bounds l 3 6 (by omega)
  have b4 := atOf_bounds l 4 4 (by omega)
  have b5 := atOf_bounds l 5 16 (by omega)
  have b6 := atOf_bounds l 6 5 (by omega)
  have b7 := atOf_bounds l 7 12 (by omega)
  have b8 := atOf_bounds l 8 20 (by omega)
  have b9 := atOf_bounds l 9 12 (by omega)
  have b10 := atOf_bounds l 10 5 (by omega)
  have b11 := atOf_bounds l 11 3 (by omega)
  have p1 := pow_fact 2 (atOf l 1 6).toNat (by omega) (by omega)
  have p3 := pow_fact 8 (atOf l 3 6).toNat (by omega) (by omega)
  have ho : vld (adr0 false) = true := by kernel_rfl
  have ho6 : vld (adr0 true) = true := by kernel_rfl
  simp only [cok, sizesOk, poolsOk, timesOk, ownsOk, pw, config, cfgOf, ho, ho6, Bool.and_eq_true, wi_iff]
  refine ⟨⟨⟨⟨⟨⟨⟨?_, ?_, ?_⟩, ?_⟩, ?_, ?_⟩, ?_⟩, ⟨⟨?_, ?_⟩, ?_⟩, ?_⟩, ⟨?_, ?_⟩, ?_⟩, ?_⟩
  case refine_3 => exact p1.2.2
  case refine_6 => exact p3.2.2
  case refine_2 => have := p1.1; have := p1.2.1; constructor <;> omega
  case refine_5 => have := p3.1; have := p3.2.1; constructor <;> omega
  case refine_15 => simp
  all_goals omega
end Go.Proofs.Ythfgccibiajneaa
