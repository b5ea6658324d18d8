/-
  Texts in one, each behind those that it needs: PoAwake.
-/
import Derived.Test.YthfgccibiajneaaBar
/-
  awake (chapter 18).
-/
namespace Go.Proofs.Ythfgccibiajneaa
open Go.RowKit Go.Shelf
theorem exec_bldC4 (parts : Array (Nat × Operand)) (dst : Option Tmp) (ty : TypeId) (pos : String) (after : Array Edge) (g : Option (Nat × Bool)) (f : Operand → Value) (w : World) :
    (execOp f ⟨dst, .build 27 parts, ty, pos, after, g⟩).run Try.prog w = bldX Try.prog 27 (parts.map fun (i, x) => (i, f x)) w := rfl
attribute [local go_sem ↓] exec_bldC4
theorem cok_roomy12 : cok ((roomy 1).setV 2) = true := by kernel_rfl
set_option maxRecDepth 100000 in
set_option maxHeartbeats 8000000 in
theorem pawake_any (w : World) : Calls Try.prog 29 #[] w fun e w' => e = .returned (.bool true) ∧ Below w.heap.size w w' := by
  have hbz := build_zero
  have hst := fun (w : World) (n : Nat) (Z : Array Value) (hn : n = w.heap.size) (hZ : Z.size = 48) => store_new (P := Try.prog) sizeC w n Z (cc (roomy 1)) hn hZ (cc_size _) (cc_one _)
  have KR := Lib.hid (fun w => roomy_below 1 w)
  have OK := Lib.hid cok_roomy12
  have hsl := Lib.hid (show ((roomy 1).setV 2).slots = ((32 : Nat) : Int) from rfl)
  have hve := Lib.hid (show ((roomy 1).setV 2).versions = ((2 : Nat) : Int) from rfl)
  generalize roomy 1 = c0 at *
  go_enter Try.func29, Try.ntmps29
  go_wp2_with fail
  refine (KR.out _).mono ?_
  rintro e w1 ⟨rfl, hb⟩
  have HB := Lib.hid hb
  clear hb
  go_upto_region 2 with fail
  obtain ⟨g, hg⟩ : ∃ g, g = w1.heap.size := ⟨_, rfl⟩
  rw [← hg]
  have HC := Lib.hid (at_new w1 27 (cc c0) g hg)
  have HG := Lib.hid (show w.heap.size ≤ g by rw [hg]; exact HB.out.size)
  replace HB := Lib.hid (HB.out.alloc HB.out.size (.cells (cc c0) 27))
  clear hg hst
  generalize w1.alloc (.cells (cc c0) 27) = W at *
  have hc2 := HC.out.set 6 (.int .i64 2)
  rw [cc_setV] at hc2
  have HC2 := Lib.hid hc2
  replace HB := Lib.hid (HB.out.setCell (p := ⟨g, 6, none⟩) HG.out (.int .i64 2))
  have c6 := HC.out.cell 6
  rw [cl_head _ 6 (by omega)] at c6
  simp only [Cf.head, List.getElem?_cons_succ, List.getElem?_cons_zero] at c6
  have f6 := HC.out.frozen 6
  have l6 := HC.out.lt
  clear HC hc2
  go_upto_region 3 with fail
  clear c6 f6 l6
  generalize W.setCell ⟨g, 6, none⟩ (.int .i64 2) = W2 at *
  generalize c0.setV 2 = c at *
  have r1 := HC2.out.row
  have o1 := HC2.out.open
  have l1 := HC2.out.lt
  refine region_sq (fun _ => False) [(0, true), (1, false), (2, false), (3, true), (4, true), (5, true), (6, true), (7, true)] (by kernel_rfl) (by kernel_rfl) (fun _ _ d _ _ h => by cases d <;> exact h) ?_
  repeat (first
    | (refine sq_yes rfl (by rfl) (fun w' hM => by ((try replace hM := hM.of_drew); obtain ⟨hR1, hR2, hR3⟩ := hM.rules; have hA := hM.agg; obtain ⟨hA1, hA2⟩ := hA; clear hM; go_simp; with_reducible rfl)) ?_; simp only [Act.put, List.setIfInBounds_toArray, List.set_cons_zero, List.set_cons_succ])
    | (refine sq_no rfl (by rfl) ?_; simp only [Act.put, List.setIfInBounds_toArray, List.set_cons_zero, List.set_cons_succ]))
  refine sq_do_yes rfl (by rfl) (fun K hK => ?_)
  go_wp2_with fail
  refine (some_any 0 2 (by omega) _).mono ?_
  rintro e w3 ⟨v3, rfl, hs3, hb3⟩
  have HS3 := Lib.hid hs3
  obtain ⟨a3, c3, hv3⟩ := hs3.form
  rw [som_len] at hv3
  simp only [show ((2 : Int) % 6).toNat = 2 from rfl] at hv3
  subst hv3
  replace HB := Lib.hid (step_below HB.out.drew hb3)
  clear hs3
  go_wp2_with fail
  refine ⟨Mod.of_below hb3, ?_⟩
  clear hb3 r1 o1 l1 HC2
  repeat (first
    | (refine sq_yes rfl (by rfl) (fun w' hM => by ((try replace hM := hM.of_drew); obtain ⟨hR1, hR2, hR3⟩ := hM.rules; have hA := hM.agg; obtain ⟨hA1, hA2⟩ := hA; clear hM; go_simp; with_reducible rfl)) ?_; simp only [Act.put, List.setIfInBounds_toArray, List.set_cons_zero, List.set_cons_succ])
    | (refine sq_no rfl (by rfl) ?_; simp only [Act.put, List.setIfInBounds_toArray, List.set_cons_zero, List.set_cons_succ]))
  refine sq_do_yes rfl (by rfl) (fun K hK => ?_)
  go_wp2_with fail
  refine (pnew_any c a3 2 c3 32 2 (som 0 2) _ (HS3.out.rd Mb.len).1 (som_ok _ _) OK.out hsl.out hve.out (by omega) (by omega) (by omega) (by omega)).mono ?_
  rintro e w4 ⟨p, t, lv, sv, rfl, hP, hb4⟩
  have HBB := Lib.hid HB.out.size
  replace HB := Lib.hid (step_below HB.out hb4)
  have HP := Lib.hid hP
  clear hP HS3
  go_wp2_with fail
  refine ⟨Mod.of_below hb4, ?_⟩
  clear hb4
  repeat (first
    | (refine sq_yes rfl (by rfl) (fun w' hM => by ((try replace hM := hM.of_drew); obtain ⟨hR1, hR2, hR3⟩ := hM.rules; have hA := hM.agg; obtain ⟨hA1, hA2⟩ := hA; clear hM; go_simp; with_reducible rfl)) ?_; simp only [Act.put, List.setIfInBounds_toArray, List.set_cons_zero, List.set_cons_succ])
    | (refine sq_no rfl (by rfl) ?_; simp only [Act.put, List.setIfInBounds_toArray, List.set_cons_zero, List.set_cons_succ]))
  refine sq_end ?_
  have HSL := Lib.hid (fillR_len [] (som 0 2) 32 (som_ok _ _))
  rw [show (List.replicate 2 v0).set 0 ⟨sv, fillR [] (som 0 2) 32, 0, false⟩ = [⟨sv, fillR [] (som 0 2) 32, 0, false⟩, v0] from rfl] at HP
  generalize fillR [] (som 0 2) 32 = S0 at *
  generalize w3.heap.size = B at *
  go_wp2_with fail
  refine (new_nil_bad cf0 none 0 0 _ cok_zero).mono ?_
  rintro e w5 ⟨rfl, hb5⟩
  replace HB := Lib.hid (step_below HB.out hb5)
  replace HP := Lib.hid (HP.out.below hb5)
  clear hb5 hbz
  go_wp2_with fail
  refine (some_any 1 2 (by omega) _).mono ?_
  rintro e w6 ⟨v6, rfl, hs6, hb6⟩
  have HS6 := Lib.hid hs6
  obtain ⟨a6, c6, hv6⟩ := hs6.form
  rw [som_len] at hv6
  simp only [show ((2 : Int) % 6).toNat = 2 from rfl] at hv6
  subst hv6
  replace HB := Lib.hid (step_below HB.out hb6)
  replace HP := Lib.hid (HP.out.below hb6)
  clear hs6 hb6
  go_wp2_with fail
  refine (reserve_at a6 2 c6 _ 32 1 (som 1 2) HP.out HS6.out (som_ok _ _) hsl.out (by omega) (by omega) HSL.out (by simp) (fun i hi => by rw [show i = 0 by omega]; rfl) rfl).mono ?_
  rintro e w7 ⟨rfl, lv7, sv7, hP, hm⟩
  replace HB := Lib.hid (hm.bel HP.out HBB.out HB.out)
  clear HP
  have HSL1 := Lib.hid (fillR_len S0 (som 1 2) 32 (som_ok _ _))
  have HS1 := Lib.hid (show (fillR S0 (som 1 2) 32).length = 32 by
    unfold fillR
    rw [if_neg (by rw [som_len]; decide)]
    exact fillOf_len S0 _ 32 (sharesOf_facts (som_ok _ _) (by rw [som_len]; decide)))
  generalize fillR S0 (som 1 2) 32 = S1 at *
  rw [show ([⟨sv, S0, 0, false⟩, v0] : List V).set 1 ⟨sv7, S1, 0, true⟩ = [⟨sv, S0, 0, false⟩, ⟨sv7, S1, 0, true⟩] from rfl] at hP
  have HP := Lib.hid hP
  clear hP hm HS6 HSL
  go_wp2_with fail
  refine (reserve_full none 0 0 0 32 [] HP.out (Sl.nil _ _ _ _ _) mOk_nil hsl.out (by omega) (by omega) HSL1.out (fun i hi => by
    have : i = 0 ∨ i = 1 := by simp at hi; omega
    rcases this with rfl | rfl <;> rfl)).mono ?_
  rintro e w8 ⟨rfl, hb8⟩
  replace HB := Lib.hid (step_below HB.out hb8)
  replace HP := Lib.hid (HP.out.below hb8)
  clear hb8
  go_wp2_with fail
  refine (serve_any HP.out 1 ⟨sv7, S1, 0, true⟩ rfl rfl).mono ?_
  rintro e w9 (⟨h, _⟩ | ⟨_, rfl, hP, hm⟩)
  · cases h
  rw [show ([⟨sv, S0, 0, false⟩, ⟨sv7, S1, 0, true⟩] : List V).set 1 ⟨sv7, S1, 0, false⟩ = [⟨sv, S0, 0, false⟩, ⟨sv7, S1, 0, false⟩] from rfl] at hP
  replace HB := Lib.hid (hm.bel HP.out HBB.out HB.out)
  replace HP := Lib.hid hP
  clear hP hm
  go_wp2_with fail
  refine (serve_any HP.out 1 ⟨sv7, S1, 0, false⟩ rfl rfl).mono ?_
  rintro e w10 (⟨_, rfl, rfl⟩ | ⟨h, _⟩)
  case inr => cases h
  go_wp2_with fail
  refine (reserve_at none 0 0 0 32 0 [] HP.out (Sl.nil _ _ _ _ _) mOk_nil hsl.out (by omega) (by omega) HSL1.out (by simp) (fun i hi => by omega) rfl).mono ?_
  rintro e w11 ⟨rfl, lv11, sv11, hP, hm⟩
  replace HB := Lib.hid (hm.bel HP.out HBB.out HB.out)
  rw [show ([⟨sv, S0, 0, false⟩, ⟨sv7, S1, 0, false⟩] : List V).set 0 ⟨sv11, fillR S1 [] 32, 0, true⟩ = [⟨sv11, [], 0, true⟩, ⟨sv7, S1, 0, false⟩] from rfl, show fillR S1 [] 32 = [] from rfl] at hP
  replace HP := Lib.hid hP
  clear hP hm
  go_wp2_with fail
  refine (ref_yes HP.out 1 ⟨sv7, S1, 0, false⟩ rfl rfl (show (0 : Nat) < 1000000 by decide)).mono ?_
  rintro e w12 ⟨rfl, hP, hm⟩
  replace HB := Lib.hid (hm.bel HP.out HBB.out HB.out)
  rw [show ([⟨sv11, [], 0, true⟩, ⟨sv7, S1, 0, false⟩] : List V).set 1 ⟨sv7, S1, 0 + 1, false⟩ = [⟨sv11, [], 0, true⟩, ⟨sv7, S1, 1, false⟩] from rfl] at hP
  replace HP := Lib.hid hP
  clear hP hm
  go_wp2_with fail
  refine (unref_any HP.out 1 ⟨sv7, S1, 1, false⟩ rfl rfl (show (1 : Nat) < 1000000 by decide)).mono ?_
  rintro e w13 (⟨h, _⟩ | ⟨_, rfl, hP, hm⟩)
  · cases h
  replace HB := Lib.hid (hm.bel HP.out HBB.out HB.out)
  rw [show ([⟨sv11, [], 0, true⟩, ⟨sv7, S1, 1, false⟩] : List V).set 1 ⟨sv7, S1, 1 - 1, false⟩ = [⟨sv11, [], 0, true⟩, ⟨sv7, S1, 0, false⟩] from rfl] at hP
  replace HP := Lib.hid hP
  clear hP hm
  go_wp2_with fail
  refine (unref_any HP.out 1 ⟨sv7, S1, 0, false⟩ rfl rfl (show (0 : Nat) < 1000000 by decide)).mono ?_
  rintro e w14 (⟨_, rfl, rfl⟩ | ⟨h, _⟩)
  case inr => exact absurd h (Nat.lt_irrefl 0)
  go_wp2_with fail
  refine (dip_past HP.out 0 ⟨sv11, [], 0, true⟩ 0 rfl rfl (by simp)).mono ?_
  rintro e w15 ⟨rfl, hb⟩
  replace HB := Lib.hid (step_below HB.out hb)
  replace HP := Lib.hid (HP.out.below hb)
  clear hb
  have hst := fun (w : World) (n : Nat) (Z : Array Value) (hn : n = w.heap.size) (hZ : Z.size = 18) => store_new (P := Try.prog) sizeDp w n Z (dc dp0) hn hZ (dc_size _) (dc_one _)
  go_upto_region 14 with fail
  replace HB := Lib.hid (HB.out.alloc HB.out.size (.cells (dc dp0) 92))
  replace HP := Lib.hid (HP.out.alloc (.cells (dc dp0) 92))
  clear hst
  generalize w15.alloc (.cells (dc dp0) 92) = W15 at *
  obtain ⟨y, hy⟩ : ∃ y, S1[31]? = some y := ⟨_, List.getElem?_eq_getElem (by rw [HS1.out]; decide)⟩
  have HY := Lib.hid hy
  clear hy
  go_wp2_with fail
  refine (dip_yes HP.out 1 ⟨sv7, S1, 0, false⟩ 31 y rfl rfl HY.out (by show S1.length ≤ 64; rw [HS1.out]; decide)).mono ?_
  rintro e w16 ⟨rfl, hb⟩
  replace HB := Lib.hid (step_below HB.out hb)
  replace HP := Lib.hid (HP.out.below hb)
  clear hb
  have hst := fun (w : World) (n : Nat) (Z : Array Value) (hn : n = w.heap.size) (hZ : Z.size = 18) => store_new (P := Try.prog) sizeDp w n Z (dc y) hn hZ (dc_size _) (dc_one _)
  go_upto_region 15 with fail
  replace HB := Lib.hid (HB.out.alloc HB.out.size (.cells (dc y) 92))
  replace HP := Lib.hid (HP.out.alloc (.cells (dc y) 92))
  clear hst
  generalize w16.alloc (.cells (dc y) 92) = W16 at *
  go_wp2_with fail
  refine (now_any HP.out).mono ?_
  rintro e w17 ⟨rfl, rfl⟩
  go_wp2_with fail
  refine (last_any HP.out (by simp)).mono ?_
  rintro e w18 ⟨v18, rfl, hs18, hb⟩
  obtain ⟨a18, c18, hv18⟩ := hs18.form
  simp only [List.length_nil] at hv18
  subst hv18
  replace HB := Lib.hid (step_below HB.out hb)
  replace HP := Lib.hid (HP.out.below hb)
  clear hs18 hb
  go_wp2_with fail
  refine (lives_any HP.out (-1)).mono ?_
  rintro e w19 ⟨v19, rfl, ho, hb⟩
  rw [show (cutP (-1) (liveTo [⟨sv11, [], 0, true⟩, ⟨sv7, S1, 0, false⟩] 1 ([⟨sv11, [], 0, true⟩, ⟨sv7, S1, 0, false⟩] : List V).length)).map (fun p : Nat => (p : Int)) = [0, 1] from rfl] at ho
  obtain ⟨a19, n19, c19, rfl, hn19, hi19, _⟩ := ho.parts
  obtain rfl : n19 = 2 := hn19
  replace HB := Lib.hid (step_below HB.out hb)
  replace HP := Lib.hid (HP.out.below hb)
  have HI := Lib.hid hi19
  clear ho hi19 hb
  go_wp2_with fail
  obtain ⟨gz, hgz⟩ : ∃ g, g = w19.heap.size := ⟨_, rfl⟩
  rw [← hgz]
  have HZ := Lib.hid (at_new w19 3 #[.int .i64 0, .int .i64 1] gz hgz)
  replace HI := Lib.hid (HI.out.below ((Below.refl _ w19).alloc (Nat.le_refl _) (.cells #[.int .i64 0, .int .i64 1] 3)))
  replace HB := Lib.hid (HB.out.alloc HB.out.size (.cells #[.int .i64 0, .int .i64 1] 3))
  replace HP := Lib.hid (HP.out.alloc (.cells #[.int .i64 0, .int .i64 1] 3))
  clear hgz
  generalize w19.alloc (.cells #[.int .i64 0, .int .i64 1] 3) = W19 at *
  refine (ints_any a19 2 c19 [0, 1] (some ⟨gz, 0, none⟩) 2 2 [0, 1] _ HI.out (Ints.at (l := [0, 1]) HZ.out) (by omega) (by omega)).mono ?_
  rintro e w20 ⟨rfl, hb⟩
  replace HB := Lib.hid (step_below HB.out hb)
  rw [show ((([0, 1] : List Int) == [0, 1]) : Bool) = true from rfl]
  clear hb HI HZ HP
  go_wp2_with fail
  refine (ref_nil 0 _).mono ?_
  rintro e w21 ⟨rfl, rfl⟩
  go_wp2_with fail
  refine (now_nil _).mono ?_
  rintro e w22 ⟨rfl, rfl⟩
  go_wp2_with fail
  go_ret
  exact ⟨rfl, HB.out⟩
end Go.Proofs.Ythfgccibiajneaa
