/-
  Texts in one, each behind those that it needs: PoAwake, PvDip, PvHeap, PvTab, PvRead, PvVip, PvVal, MapE.
-/
import Derived.Test.YthfgccibiajneaaBar
import Derived.WideKeyEntry
/-
  awake (chapter 18).
-/
namespace Go.Proofs.Ythfgccibiajneaa
open Go.RowKit Go.Shelf
theorem exec_bldC4 (parts : Array (Nat × Operand)) (dst : Option Tmp) (ty : TypeId) (pos : String) (after : Array Edge) (g : Option (Nat × Bool)) (f : Operand → Value) (w : World) :
    (execOp f ⟨dst, .build 27 parts, ty, pos, after, g⟩).run Try.prog w = bldX Try.prog 27 (parts.map fun (i, x) => (i, f x)) w := rfl
attribute [local go_sem ↓] exec_bldC4
theorem cok_roomy12 : cok ((roomy 1).setV 2) = true := by kernel_rfl
set_option maxRecDepth 100000 in
set_option maxHeartbeats 8000000 in
theorem pawake_any (w : World) : Calls Try.prog 29 #[] w fun e w' => e = .returned (.bool true) ∧ Below w.heap.size w w' := by
  have hbz := build_zero
  have hst := fun (w : World) (n : Nat) (Z : Array Value) (hn : n = w.heap.size) (hZ : Z.size = 48) => store_new (P := Try.prog) sizeC w n Z (cc (roomy 1)) hn hZ (cc_size _) (cc_one _)
  have KR := Lib.hid (fun w => roomy_below 1 w)
  have OK := Lib.hid cok_roomy12
  have hsl := Lib.hid (show ((roomy 1).setV 2).slots = ((32 : Nat) : Int) from rfl)
  have hve := Lib.hid (show ((roomy 1).setV 2).versions = ((2 : Nat) : Int) from rfl)
  generalize roomy 1 = c0 at *
  go_enter Try.func29, Try.ntmps29
  go_wp2_with fail
  refine (KR.out _).mono ?_
  rintro e w1 ⟨rfl, hb⟩
  have HB := Lib.hid hb
  clear hb
  go_upto_region 2 with fail
  obtain ⟨g, hg⟩ : ∃ g, g = w1.heap.size := ⟨_, rfl⟩
  rw [← hg]
  have HC := Lib.hid (at_new w1 27 (cc c0) g hg)
  have HG := Lib.hid (show w.heap.size ≤ g by rw [hg]; exact HB.out.size)
  replace HB := Lib.hid (HB.out.alloc HB.out.size (.cells (cc c0) 27))
  clear hg hst
  generalize w1.alloc (.cells (cc c0) 27) = W at *
  have hc2 := HC.out.set 6 (.int .i64 2)
  rw [cc_setV] at hc2
  have HC2 := Lib.hid hc2
  replace HB := Lib.hid (HB.out.setCell (p := ⟨g, 6, none⟩) HG.out (.int .i64 2))
  have c6 := HC.out.cell 6
  rw [cl_head _ 6 (by omega)] at c6
  simp only [Cf.head, List.getElem?_cons_succ, List.getElem?_cons_zero] at c6
  have f6 := HC.out.frozen 6
  have l6 := HC.out.lt
  clear HC hc2
  go_upto_region 3 with fail
  clear c6 f6 l6
  generalize W.setCell ⟨g, 6, none⟩ (.int .i64 2) = W2 at *
  generalize c0.setV 2 = c at *
  have r1 := HC2.out.row
  have o1 := HC2.out.open
  have l1 := HC2.out.lt
  refine region_sq (fun _ => False) [(0, true), (1, false), (2, false), (3, true), (4, true), (5, true), (6, true), (7, true)] (by kernel_rfl) (by kernel_rfl) (fun _ _ d _ _ h => by cases d <;> exact h) ?_
  repeat (first
    | (refine sq_yes rfl (by rfl) (fun w' hM => by ((try replace hM := hM.of_drew); obtain ⟨hR1, hR2, hR3⟩ := hM.rules; have hA := hM.agg; obtain ⟨hA1, hA2⟩ := hA; clear hM; go_simp; with_reducible rfl)) ?_; simp only [Act.put, List.setIfInBounds_toArray, List.set_cons_zero, List.set_cons_succ])
    | (refine sq_no rfl (by rfl) ?_; simp only [Act.put, List.setIfInBounds_toArray, List.set_cons_zero, List.set_cons_succ]))
  refine sq_do_yes rfl (by rfl) (fun K hK => ?_)
  go_wp2_with fail
  refine (some_any 0 2 (by omega) _).mono ?_
  rintro e w3 ⟨v3, rfl, hs3, hb3⟩
  have HS3 := Lib.hid hs3
  obtain ⟨a3, c3, hv3⟩ := hs3.form
  rw [som_len] at hv3
  simp only [show ((2 : Int) % 6).toNat = 2 from rfl] at hv3
  subst hv3
  replace HB := Lib.hid (step_below HB.out.drew hb3)
  clear hs3
  go_wp2_with fail
  refine ⟨Mod.of_below hb3, ?_⟩
  clear hb3 r1 o1 l1 HC2
  repeat (first
    | (refine sq_yes rfl (by rfl) (fun w' hM => by ((try replace hM := hM.of_drew); obtain ⟨hR1, hR2, hR3⟩ := hM.rules; have hA := hM.agg; obtain ⟨hA1, hA2⟩ := hA; clear hM; go_simp; with_reducible rfl)) ?_; simp only [Act.put, List.setIfInBounds_toArray, List.set_cons_zero, List.set_cons_succ])
    | (refine sq_no rfl (by rfl) ?_; simp only [Act.put, List.setIfInBounds_toArray, List.set_cons_zero, List.set_cons_succ]))
  refine sq_do_yes rfl (by rfl) (fun K hK => ?_)
  go_wp2_with fail
  refine (pnew_any c a3 2 c3 32 2 (som 0 2) _ (HS3.out.rd Mb.len).1 (som_ok _ _) OK.out hsl.out hve.out (by omega) (by omega) (by omega) (by omega)).mono ?_
  rintro e w4 ⟨p, t, lv, sv, rfl, hP, hb4⟩
  have HBB := Lib.hid HB.out.size
  replace HB := Lib.hid (step_below HB.out hb4)
  have HP := Lib.hid hP
  clear hP HS3
  go_wp2_with fail
  refine ⟨Mod.of_below hb4, ?_⟩
  clear hb4
  repeat (first
    | (refine sq_yes rfl (by rfl) (fun w' hM => by ((try replace hM := hM.of_drew); obtain ⟨hR1, hR2, hR3⟩ := hM.rules; have hA := hM.agg; obtain ⟨hA1, hA2⟩ := hA; clear hM; go_simp; with_reducible rfl)) ?_; simp only [Act.put, List.setIfInBounds_toArray, List.set_cons_zero, List.set_cons_succ])
    | (refine sq_no rfl (by rfl) ?_; simp only [Act.put, List.setIfInBounds_toArray, List.set_cons_zero, List.set_cons_succ]))
  refine sq_end ?_
  have HSL := Lib.hid (fillR_len [] (som 0 2) 32 (som_ok _ _))
  rw [show (List.replicate 2 v0).set 0 ⟨sv, fillR [] (som 0 2) 32, 0, false⟩ = [⟨sv, fillR [] (som 0 2) 32, 0, false⟩, v0] from rfl] at HP
  generalize fillR [] (som 0 2) 32 = S0 at *
  generalize w3.heap.size = B at *
  go_wp2_with fail
  refine (new_nil_bad cf0 none 0 0 _ cok_zero).mono ?_
  rintro e w5 ⟨rfl, hb5⟩
  replace HB := Lib.hid (step_below HB.out hb5)
  replace HP := Lib.hid (HP.out.below hb5)
  clear hb5 hbz
  go_wp2_with fail
  refine (some_any 1 2 (by omega) _).mono ?_
  rintro e w6 ⟨v6, rfl, hs6, hb6⟩
  have HS6 := Lib.hid hs6
  obtain ⟨a6, c6, hv6⟩ := hs6.form
  rw [som_len] at hv6
  simp only [show ((2 : Int) % 6).toNat = 2 from rfl] at hv6
  subst hv6
  replace HB := Lib.hid (step_below HB.out hb6)
  replace HP := Lib.hid (HP.out.below hb6)
  clear hs6 hb6
  go_wp2_with fail
  refine (reserve_at a6 2 c6 _ 32 1 (som 1 2) HP.out HS6.out (som_ok _ _) hsl.out (by omega) (by omega) HSL.out (by simp) (fun i hi => by rw [show i = 0 by omega]; rfl) rfl).mono ?_
  rintro e w7 ⟨rfl, lv7, sv7, hP, hm⟩
  replace HB := Lib.hid (hm.bel HP.out HBB.out HB.out)
  clear HP
  have HSL1 := Lib.hid (fillR_len S0 (som 1 2) 32 (som_ok _ _))
  have HS1 := Lib.hid (show (fillR S0 (som 1 2) 32).length = 32 by
    unfold fillR
    rw [if_neg (by rw [som_len]; decide)]
    exact fillOf_len S0 _ 32 (sharesOf_facts (som_ok _ _) (by rw [som_len]; decide)))
  generalize fillR S0 (som 1 2) 32 = S1 at *
  rw [show ([⟨sv, S0, 0, false⟩, v0] : List V).set 1 ⟨sv7, S1, 0, true⟩ = [⟨sv, S0, 0, false⟩, ⟨sv7, S1, 0, true⟩] from rfl] at hP
  have HP := Lib.hid hP
  clear hP hm HS6 HSL
  go_wp2_with fail
  refine (reserve_full none 0 0 0 32 [] HP.out (Sl.nil _ _ _ _ _) mOk_nil hsl.out (by omega) (by omega) HSL1.out (fun i hi => by
    have : i = 0 ∨ i = 1 := by simp at hi; omega
    rcases this with rfl | rfl <;> rfl)).mono ?_
  rintro e w8 ⟨rfl, hb8⟩
  replace HB := Lib.hid (step_below HB.out hb8)
  replace HP := Lib.hid (HP.out.below hb8)
  clear hb8
  go_wp2_with fail
  refine (serve_any HP.out 1 ⟨sv7, S1, 0, true⟩ rfl rfl).mono ?_
  rintro e w9 (⟨h, _⟩ | ⟨_, rfl, hP, hm⟩)
  · cases h
  rw [show ([⟨sv, S0, 0, false⟩, ⟨sv7, S1, 0, true⟩] : List V).set 1 ⟨sv7, S1, 0, false⟩ = [⟨sv, S0, 0, false⟩, ⟨sv7, S1, 0, false⟩] from rfl] at hP
  replace HB := Lib.hid (hm.bel HP.out HBB.out HB.out)
  replace HP := Lib.hid hP
  clear hP hm
  go_wp2_with fail
  refine (serve_any HP.out 1 ⟨sv7, S1, 0, false⟩ rfl rfl).mono ?_
  rintro e w10 (⟨_, rfl, rfl⟩ | ⟨h, _⟩)
  case inr => cases h
  go_wp2_with fail
  refine (reserve_at none 0 0 0 32 0 [] HP.out (Sl.nil _ _ _ _ _) mOk_nil hsl.out (by omega) (by omega) HSL1.out (by simp) (fun i hi => by omega) rfl).mono ?_
  rintro e w11 ⟨rfl, lv11, sv11, hP, hm⟩
  replace HB := Lib.hid (hm.bel HP.out HBB.out HB.out)
  rw [show ([⟨sv, S0, 0, false⟩, ⟨sv7, S1, 0, false⟩] : List V).set 0 ⟨sv11, fillR S1 [] 32, 0, true⟩ = [⟨sv11, [], 0, true⟩, ⟨sv7, S1, 0, false⟩] from rfl, show fillR S1 [] 32 = [] from rfl] at hP
  replace HP := Lib.hid hP
  clear hP hm
  go_wp2_with fail
  refine (ref_yes HP.out 1 ⟨sv7, S1, 0, false⟩ rfl rfl (show (0 : Nat) < 1000000 by decide)).mono ?_
  rintro e w12 ⟨rfl, hP, hm⟩
  replace HB := Lib.hid (hm.bel HP.out HBB.out HB.out)
  rw [show ([⟨sv11, [], 0, true⟩, ⟨sv7, S1, 0, false⟩] : List V).set 1 ⟨sv7, S1, 0 + 1, false⟩ = [⟨sv11, [], 0, true⟩, ⟨sv7, S1, 1, false⟩] from rfl] at hP
  replace HP := Lib.hid hP
  clear hP hm
  go_wp2_with fail
  refine (unref_any HP.out 1 ⟨sv7, S1, 1, false⟩ rfl rfl (show (1 : Nat) < 1000000 by decide)).mono ?_
  rintro e w13 (⟨h, _⟩ | ⟨_, rfl, hP, hm⟩)
  · cases h
  replace HB := Lib.hid (hm.bel HP.out HBB.out HB.out)
  rw [show ([⟨sv11, [], 0, true⟩, ⟨sv7, S1, 1, false⟩] : List V).set 1 ⟨sv7, S1, 1 - 1, false⟩ = [⟨sv11, [], 0, true⟩, ⟨sv7, S1, 0, false⟩] from rfl] at hP
  replace HP := Lib.hid hP
  clear hP hm
  go_wp2_with fail
  refine (unref_any HP.out 1 ⟨sv7, S1, 0, false⟩ rfl rfl (show (0 : Nat) < 1000000 by decide)).mono ?_
  rintro e w14 (⟨_, rfl, rfl⟩ | ⟨h, _⟩)
  case inr => exact absurd h (Nat.lt_irrefl 0)
  go_wp2_with fail
  refine (dip_past HP.out 0 ⟨sv11, [], 0, true⟩ 0 rfl rfl (by simp)).mono ?_
  rintro e w15 ⟨rfl, hb⟩
  replace HB := Lib.hid (step_below HB.out hb)
  replace HP := Lib.hid (HP.out.below hb)
  clear hb
  have hst := fun (w : World) (n : Nat) (Z : Array Value) (hn : n = w.heap.size) (hZ : Z.size = 18) => store_new (P := Try.prog) sizeDp w n Z (dc dp0) hn hZ (dc_size _) (dc_one _)
  go_upto_region 14 with fail
  replace HB := Lib.hid (HB.out.alloc HB.out.size (.cells (dc dp0) 92))
  replace HP := Lib.hid (HP.out.alloc (.cells (dc dp0) 92))
  clear hst
  generalize w15.alloc (.cells (dc dp0) 92) = W15 at *
  obtain ⟨y, hy⟩ : ∃ y, S1[31]? = some y := ⟨_, List.getElem?_eq_getElem (by rw [HS1.out]; decide)⟩
  have HY := Lib.hid hy
  clear hy
  go_wp2_with fail
  refine (dip_yes HP.out 1 ⟨sv7, S1, 0, false⟩ 31 y rfl rfl HY.out (by show S1.length ≤ 64; rw [HS1.out]; decide)).mono ?_
  rintro e w16 ⟨rfl, hb⟩
  replace HB := Lib.hid (step_below HB.out hb)
  replace HP := Lib.hid (HP.out.below hb)
  clear hb
  have hst := fun (w : World) (n : Nat) (Z : Array Value) (hn : n = w.heap.size) (hZ : Z.size = 18) => store_new (P := Try.prog) sizeDp w n Z (dc y) hn hZ (dc_size _) (dc_one _)
  go_upto_region 15 with fail
  replace HB := Lib.hid (HB.out.alloc HB.out.size (.cells (dc y) 92))
  replace HP := Lib.hid (HP.out.alloc (.cells (dc y) 92))
  clear hst
  generalize w16.alloc (.cells (dc y) 92) = W16 at *
  go_wp2_with fail
  refine (now_any HP.out).mono ?_
  rintro e w17 ⟨rfl, rfl⟩
  go_wp2_with fail
  refine (last_any HP.out (by simp)).mono ?_
  rintro e w18 ⟨v18, rfl, hs18, hb⟩
  obtain ⟨a18, c18, hv18⟩ := hs18.form
  simp only [List.length_nil] at hv18
  subst hv18
  replace HB := Lib.hid (step_below HB.out hb)
  replace HP := Lib.hid (HP.out.below hb)
  clear hs18 hb
  go_wp2_with fail
  refine (lives_any HP.out (-1)).mono ?_
  rintro e w19 ⟨v19, rfl, ho, hb⟩
  rw [show (cutP (-1) (liveTo [⟨sv11, [], 0, true⟩, ⟨sv7, S1, 0, false⟩] 1 ([⟨sv11, [], 0, true⟩, ⟨sv7, S1, 0, false⟩] : List V).length)).map (fun p : Nat => (p : Int)) = [0, 1] from rfl] at ho
  obtain ⟨a19, n19, c19, rfl, hn19, hi19, _⟩ := ho.parts
  obtain rfl : n19 = 2 := hn19
  replace HB := Lib.hid (step_below HB.out hb)
  replace HP := Lib.hid (HP.out.below hb)
  have HI := Lib.hid hi19
  clear ho hi19 hb
  go_wp2_with fail
  obtain ⟨gz, hgz⟩ : ∃ g, g = w19.heap.size := ⟨_, rfl⟩
  rw [← hgz]
  have HZ := Lib.hid (at_new w19 3 #[.int .i64 0, .int .i64 1] gz hgz)
  replace HI := Lib.hid (HI.out.below ((Below.refl _ w19).alloc (Nat.le_refl _) (.cells #[.int .i64 0, .int .i64 1] 3)))
  replace HB := Lib.hid (HB.out.alloc HB.out.size (.cells #[.int .i64 0, .int .i64 1] 3))
  replace HP := Lib.hid (HP.out.alloc (.cells #[.int .i64 0, .int .i64 1] 3))
  clear hgz
  generalize w19.alloc (.cells #[.int .i64 0, .int .i64 1] 3) = W19 at *
  refine (ints_any a19 2 c19 [0, 1] (some ⟨gz, 0, none⟩) 2 2 [0, 1] _ HI.out (Ints.at (l := [0, 1]) HZ.out) (by omega) (by omega)).mono ?_
  rintro e w20 ⟨rfl, hb⟩
  replace HB := Lib.hid (step_below HB.out hb)
  rw [show ((([0, 1] : List Int) == [0, 1]) : Bool) = true from rfl]
  clear hb HI HZ HP
  go_wp2_with fail
  refine (ref_nil 0 _).mono ?_
  rintro e w21 ⟨rfl, rfl⟩
  go_wp2_with fail
  refine (now_nil _).mono ?_
  rintro e w22 ⟨rfl, rfl⟩
  go_wp2_with fail
  go_ret
  exact ⟨rfl, HB.out⟩
end Go.Proofs.Ythfgccibiajneaa

/-
  VIPs: their cells; VIPs as keys; an entry of the table.
-/
namespace Go.Proofs.Ythfgccibiajneaa
open Go.RowKit
structure Vp where
  pr : Nat
  a : Adr
  port : Nat
  hpr : pr < 256
  hp : port < 65536
def Vp.l (v : Vp) : List Value := .int .u8 v.pr :: (v.a.l ++ [.int .u16 v.port])
def vpc (v : Vp) : Array Value := v.l.toArray
theorem Vp.len (v : Vp) : v.l.length = 19 := by simp [Vp.l, Adr.l_length]
@[go_sem] theorem vpc_size (v : Vp) : (vpc v).size = 19 := v.len
theorem vl_get (v : Vp) (j : Nat) : (vpc v)[j]? = v.l[j]? := by simp [vpc]
theorem vl_0? (v : Vp) : (vpc v)[0]? = some (.int .u8 v.pr) := by rw [vl_get]; rfl
theorem vl_adr (v : Vp) (j : Nat) (h : j < 17) : (vpc v)[j + 1]? = (ac v.a)[j]? := by
  have := v.a.l_length
  rw [vl_get, ac_get, Vp.l, List.getElem?_cons_succ, List.getElem?_append_left (by omega)]
theorem vl_18? (v : Vp) : (vpc v)[18]? = some (.int .u16 v.port) := by
  have := v.a.l_length
  rw [vl_get, Vp.l, List.getElem?_cons_succ, List.getElem?_append_right (by omega), this]; rfl
@[go_sem] theorem vpc_0 (v : Vp) (h : 0 < (vpc v).size) : (vpc v)[0] = .int .u8 v.pr := get_of (vl_0? v) h
@[go_sem] theorem vpc_18 (v : Vp) (h : 18 < (vpc v).size) : (vpc v)[18] = .int .u16 v.port := get_of (vl_18? v) h
@[go_sem] theorem vpc_adr (v : Vp) : (vpc v).extract 1 18 = ac v.a := ext_of (a := 1) (n := 17) (ac_size _) (by rw [vpc_size]; omega) fun j hj => by rw [vl_adr v j hj]
@[go_sem] theorem vpc_all (v : Vp) : (vpc v).extract 0 19 = vpc v := ext_of (a := 0) (n := 19) (vpc_size _) (by rw [vpc_size]; omega) fun j _ => rfl
theorem Vp.inj {a b : Vp} (h : vpc a = vpc b) : a = b := by
  have h := congrArg Array.toList h
  simp only [vpc, Vp.l, List.cons.injEq] at h
  obtain ⟨h0, h⟩ := h
  obtain ⟨h1, h2⟩ := List.append_inj h (by rw [Adr.l_length, Adr.l_length])
  obtain ⟨r, x, p, hr, hp⟩ := a
  obtain ⟨s, y, q, hs, hq⟩ := b
  obtain rfl := Adr.inj h1
  simp only [List.cons.injEq, Value.int.injEq, true_and, and_true] at h2 h0
  obtain rfl : p = q := by omega
  obtain rfl : r = s := by omega
  rfl
instance : DecidableEq Vp := fun a b => if h : a.pr = b.pr ∧ a.a.v6 = b.a.v6 ∧ a.a.b = b.a.b ∧ a.port = b.port then .isTrue (by
  obtain ⟨r, ⟨v, l, h1, h2⟩, p, hr, hp⟩ := a
  obtain ⟨r', ⟨v', l', h1', h2'⟩, p', hr', hp'⟩ := b
  simp only at h
  obtain ⟨rfl, rfl, rfl, rfl⟩ := h
  rfl) else .isFalse (fun e => h (by rw [e]; exact ⟨rfl, rfl, rfl, rfl⟩))
theorem vp_one (v : Vp) : (vpc v).all (·.oneCell') = true := by
  rw [Array.all_eq_true']
  intro u hu
  have hu : u ∈ v.l := by simpa [vpc] using hu
  simp only [Vp.l, Adr.l, List.mem_append, List.mem_cons, List.not_mem_nil, or_false] at hu
  rcases hu with rfl | (rfl | hu) | rfl
  · rfl
  · rfl
  · obtain ⟨x, _, rfl⟩ := List.mem_map.1 hu; rfl
  · rfl
theorem sizeVp : (Try.prog.info? 86).map (·.size) = some 19 := by kernel_rfl
theorem loadVp (x : Operand) (dst : Option Tmp) (t : TypeId) (pos : String) (after : Array Edge) (g : Option (Nat × Bool)) (f : Operand → Value) (w : World)
    (hx : plainPtr (f x) = true) (ho : aggOk w (blk (f x)) (offOf (f x)) 19 = true) :
    (execOp f ⟨dst, .load 86 x, t, pos, after, g⟩).run Try.prog w = .ok (.value (.agg (aggAt w (blk (f x)) (offOf (f x)) 19))) w :=
  exec_load_agg 86 _ 19 Try.underlying86 rfl sizeVp x dst t pos after g f w hx ho
attribute [go_sem ↓] loadVp
theorem vpLaw : WideMaps.KeyLaw Try.prog 86 := deep_law_laid laidD (m := 5) (by omega) (of_decide_eq_true (by kernel_rfl)) (by kernel_rfl) (by kernel_rfl)
theorem vpKeyed : Maps.Keyed Try.prog 86 := Maps.Keyed.of_law vpLaw
theorem cellsVp : Try.prog.cellsOf 86 = 19 := by kernel_rfl
theorem key_vp (v : Vp) : KeyV Try.prog 86 (.agg (vpc v)) := by
  have h : ∃ l, Try.prog.keyLits (Try.prog.types.size + 1) 86 v.l = some l := by
    obtain ⟨D, hD⟩ : ∃ D, Try.prog.types.size + 1 = D + 4 := ⟨Try.prog.types.size - 3, by have : 3 ≤ Try.prog.types.size := of_decide_eq_true (by kernel_rfl); omega⟩
    rw [hD]
    refine kl_struct Try.underlying86 (D + 3) (by rw [Vp.len, cellsVp]) (by kernel_rfl) fun f hf => ?_
    simp only [List.mem_cons, List.not_mem_nil, or_false] at hf
    rcases hf with rfl | rfl | rfl
    · simp only [cellsU8, Vp.l]
      exact kl_int Try.underlying5 (D + 2) (wf_u8' v.hpr)
    · simp only [cellsA, Vp.l]
      have : ((Value.int .u8 (v.pr : Nat) :: (v.a.l ++ [Value.int .u16 (v.port : Nat)])).drop 1).take 17 = v.a.l := by
        rw [List.drop_succ_cons, List.drop_zero, List.take_append_of_le_length (by rw [Adr.l_length]; exact Nat.le_refl _), List.take_of_length_le (by rw [Adr.l_length]; exact Nat.le_refl _)]
      rw [this]
      exact key_adr v.a D
    · simp only [cellsU16, Vp.l]
      have : ((Value.int .u8 (v.pr : Nat) :: (v.a.l ++ [Value.int .u16 (v.port : Nat)])).drop 18).take 1 = [.int .u16 (v.port : Nat)] := by
        rw [List.drop_succ_cons, List.drop_append_of_le_length (by rw [Adr.l_length]; exact Nat.le_refl _), List.drop_of_length_le (by rw [Adr.l_length]; exact Nat.le_refl _)]; rfl
      rw [this]
      exact kl_int Try.underlying29 (D + 2) (wf_u16' v.hp)
  obtain ⟨l, hl⟩ := h
  refine ⟨.string (keyBytes l), ?_⟩
  unfold Go.keyOf
  have e1 : Try.prog.keyType 86 = true := by kernel_rfl
  have e2 : (Value.agg (vpc v)).formed Try.prog 86 = true := by
    simp only [Value.formed, Try.underlying86, vpc_size, cellsVp]; rfl
  rw [Try.underlying86]
  simp only [e1, e2, Bool.and_self, if_true]
  rw [show (Value.agg (vpc v)).cells.toList = v.l by simp [Value.cells, vpc], hl]; rfl
theorem vpMapT : Try.prog.underlying 165 = some (.map 86 3) := by kernel_rfl
/-- May a VIP be? -/
def vipOk (v : Vp) : Bool := (decide (v.pr = 6) || decide (v.pr = 17)) && vld v.a
end Go.Proofs.Ythfgccibiajneaa

/-
  The table of VIPs: its cells.
-/
namespace Go.Proofs.Ythfgccibiajneaa
open Go.RowKit
def vz : Vp := ⟨0, adr0 false, 0, by omega, by omega⟩
/-- An entry: a VIP, and its pool's block. -/
abbrev En := Vp × Option Nat
def ptrV (p : Option Nat) : Value := .pointer (p.map fun g => ⟨g, 0, none⟩)
def enl (e : En) : List Value := e.1.l ++ [ptrV e.2]
def ec (e : En) : Array Value := (enl e).toArray
theorem enl_len (e : En) : (enl e).length = 20 := by simp [enl, Vp.len]
@[go_sem] theorem ec_size (e : En) : (ec e).size = 20 := by simp [ec, enl_len]
theorem ec_get (e : En) (j : Nat) : (ec e)[j]? = (enl e)[j]? := by simp [ec]
theorem ec_vp (e : En) (j : Nat) (h : j < 19) : (ec e)[j]? = (vpc e.1)[j]? := by
  rw [ec_get, enl, List.getElem?_append_left (by rw [Vp.len]; exact h), vl_get]
theorem ec_19? (e : En) : (ec e)[19]? = some (ptrV e.2) := by
  rw [ec_get, enl, List.getElem?_append_right (by rw [Vp.len]; omega), Vp.len]; rfl
@[go_sem] theorem ec_19 (e : En) (h : 19 < (ec e).size) : (ec e)[19] = ptrV e.2 := get_of (ec_19? e) h
@[go_sem] theorem ec_ext (e : En) : (ec e).extract 0 19 = vpc e.1 := ext_of (a := 0) (n := 19) (vpc_size _) (by rw [ec_size]; omega) fun j hj => by rw [Nat.add_zero]; exact ec_vp e j hj
def tc (c : Cf) (E : List En) (m : Nat) : Array Value := cc c ++ (E.flatMap enl).toArray ++ #[.map (some m)]
section
variable {c : Cf} {E : List En} {m : Nat}
theorem tc_len : (E.flatMap enl).length = E.length * 20 := flatLen enl_len E
theorem tc_size (h : E.length = 16) : (tc c E m).size = 369 := by
  simp only [tc, Array.size_append, cc_size, List.size_toArray, tc_len, h]; rfl
theorem tc_lo (j : Nat) (h : j < 48) : (tc c E m)[j]? = (cc c)[j]? := by
  unfold tc
  rw [Array.getElem?_append_left (by rw [Array.size_append, cc_size]; omega), Array.getElem?_append_left (by rw [cc_size]; exact h)]
theorem tc_en (i j : Nat) (hi : i < E.length) (hj : j < 20) : (tc c E m)[48 + (i * 20 + j)]? = (E[i]?).bind fun e => (ec e)[j]? := by
  have hl := tc_len (E := E)
  have hb : i * 20 + j < E.length * 20 := by omega
  unfold tc
  rw [Array.getElem?_append_left (by rw [Array.size_append, cc_size, List.size_toArray, hl]; omega), Array.getElem?_append_right (by rw [cc_size]; omega), cc_size,
    show 48 + (i * 20 + j) - 48 = i * 20 + j by omega, List.getElem?_toArray, flatGet enl_len E i j hj]
  simp only [ec_get]
theorem tc_map (h : E.length = 16) : (tc c E m)[368]? = some (.map (some m)) := by
  have hl := tc_len (E := E)
  unfold tc
  rw [Array.getElem?_append_right (by rw [Array.size_append, cc_size, List.size_toArray, hl]; omega), Array.size_append, cc_size, List.size_toArray, hl, h]; rfl
theorem tc_set (i : Nat) (e : En) (hi : i < E.length) : splice (tc c E m) (48 + i * 20) (enl e) = tc c (E.set i e) m := by
  have hl := tc_len (E := E)
  have hl' := tc_len (E := E.set i e)
  rw [List.length_set] at hl'
  have hz : (tc c E m).size = 48 + E.length * 20 + 1 := by simp only [tc, Array.size_append, cc_size, List.size_toArray, hl]; rfl
  have hz' : (tc c (E.set i e) m).size = 48 + E.length * 20 + 1 := by simp only [tc, Array.size_append, cc_size, List.size_toArray, hl']; rfl
  refine Array.ext_getElem? fun j => ?_
  rw [splice_get _ _ _ _ (by rw [enl_len, hz]; omega), enl_len]
  by_cases hj : j < 48
  · rw [if_neg (by omega), tc_lo j hj, tc_lo j hj]
  · obtain ⟨k, rfl⟩ : ∃ k, j = 48 + k := ⟨j - 48, by omega⟩
    by_cases hk : k < E.length * 20
    · obtain ⟨q, r, hr, rfl⟩ : ∃ q r, r < 20 ∧ k = q * 20 + r := ⟨k / 20, k % 20, Nat.mod_lt _ (by omega), by omega⟩
      have hq : q < E.length := by omega
      rw [tc_en q r hq hr, tc_en q r (by rw [List.length_set]; exact hq) hr, List.getElem?_set]
      by_cases hqi : i = q
      · subst hqi
        rw [if_pos (by omega), if_pos rfl, if_pos hi, show 48 + (i * 20 + r) - (48 + i * 20) = r by omega]
        simp only [Option.bind_some, ec_get]
      · rw [if_neg (by omega), if_neg hqi]
    · rw [if_neg (by omega)]
      unfold tc
      rw [Array.getElem?_append_right (by rw [Array.size_append, cc_size, List.size_toArray, hl]; omega), Array.getElem?_append_right (by rw [Array.size_append, cc_size, List.size_toArray, hl']; omega)]
      simp only [Array.size_append, cc_size, List.size_toArray, hl, hl']
end
end Go.Proofs.Ythfgccibiajneaa

/-
  The table on the heap; what merely reads it.
-/
namespace Go.Proofs.Ythfgccibiajneaa
open Go.RowKit
structure Vt (w : World) (b T m : Nat) (c : Cf) (E : List En) (M : List (Value × Value)) : Prop where
  obj : At w T 170 (tc c E m)
  mp : Mk Try.prog 86 w m M
  bT : b ≤ T
  bm : b ≤ m
  len : E.length = 16
  form : ∀ x ∈ M, ∃ (v : Vp) (i : Nat), x = (.agg (vpc v), .int .i64 (i : Nat))
  keys : ∀ (v : Vp) (i : Nat), (Value.agg (vpc v), Value.int .i64 (i : Nat)) ∈ M ↔ ∃ p, E[i]? = some (v, some p)
  ml : M.length = E.countP (fun e => e.2.isSome)
section
variable {w w' : World} {b T m : Nat} {c : Cf} {E : List En} {M : List (Value × Value)}
theorem Vt.same (h : Vt w b T m c E M) (h1 : w'.heap[T]? = w.heap[T]?) (h2 : w'.heap[m]? = w.heap[m]?) : Vt w' b T m c E M :=
  ⟨h1.trans h.obj, h.mp.same h2, h.bT, h.bm, h.len, h.form, h.keys, h.ml⟩
theorem Vt.below (h : Vt w b T m c E M) (hb : Below w.heap.size w w') : Vt w' b T m c E M := h.same (hb.block T h.obj.lt) (hb.block m h.mp.lt)
theorem Vt.drew (h : Vt w b T m c E M) : Vt w.drew b T m c E M := h.same rfl rfl
theorem Vt.alloc (h : Vt w b T m c E M) (o : Obj) : Vt (w.alloc o) b T m c E M := h.same (Below.heap_alloc w o T h.obj.lt) (Below.heap_alloc w o m h.mp.lt)
theorem Vt.mcell (h : Vt w b T m c E M) : w.cell? ⟨T, 368, none⟩ = some (.map (some m)) := (h.obj.cell 368).trans (tc_map h.len)
theorem Vt.pcell (h : Vt w b T m c E M) {i : Nat} {e : En} (he : E[i]? = some e) : w.cell? ⟨T, 48 + i * 20 + 19, none⟩ = some (ptrV e.2) := by
  have hi := (List.getElem?_eq_some_iff.1 he).1
  have := tc_en (c := c) (m := m) i 19 hi (by omega)
  rw [he, Option.bind_some, ec_19?] at this
  exact (h.obj.cell _).trans ((congrArg _ (by omega)).trans this)
/-- Is there a VIP of a number? -/
def hasE (E : List En) (i : Int) : Bool := decide (0 ≤ i) && (E[i.toNat]?.bind (·.2)).isSome
theorem hasE_at {i : Nat} {e : En} (h : E[i]? = some e) : hasE E i = e.2.isSome := by
  simp [hasE, h]
theorem hasE_neg {i : Int} (h : i < 0) : hasE E i = false := by
  rw [hasE, decide_eq_false (by omega)]; rfl
theorem hasE_big {i : Int} (h : (E.length : Int) ≤ i) : hasE E i = false := by
  rw [hasE, List.getElem?_eq_none (by omega)]; simp
theorem vhas_any (h : Vt w b T m c E M) (i : Int) : Calls Try.prog 102 #[.pointer (some ⟨T, 0, none⟩), .int .i64 i] w fun e w' => e = .returned (.bool (hasE E i)) ∧ w' = w := by
  have lT := h.obj.lt
  have rT := h.obj.row
  have oT := h.obj.open
  by_cases h0 : i < 0
  · rw [hasE_neg h0]
    have hd : decide (i ≥ 0) = false := by simp; omega
    clear h
    go_enter Try.func102, Try.ntmps102
    go_wp2_with fail
    go_ret
    exact ⟨rfl, rfl⟩
  by_cases h1 : (16 : Int) ≤ i
  · rw [hasE_big (by rw [h.len]; exact h1)]
    have hd : decide (i ≥ 0) = true := by simp; omega
    have hd1 : decide (i < 16) = false := by simp; omega
    clear h
    go_enter Try.func102, Try.ntmps102
    go_wp2_with fail
    go_ret
    exact ⟨rfl, rfl⟩
  obtain ⟨j, rfl⟩ : ∃ j : Nat, i = j := ⟨i.toNat, by omega⟩
  have hj : j < 16 := by omega
  obtain ⟨e, he⟩ : ∃ e, E[j]? = some e := ⟨_, List.getElem?_eq_getElem (by rw [h.len]; exact hj)⟩
  have hp := h.pcell he
  rw [hasE_at he]
  have hd : decide ((j : Int) ≥ 0) = true := by simp
  have hjz : (j : Int) < 16 := by omega
  have hd1 : decide ((j : Int) < 16) = true := by simpa using hjz
  clear h he
  obtain ⟨v, q⟩ := e
  cases q with
  | none =>
    simp only [ptrV, Option.map_none] at hp
    go_enter Try.func102, Try.ntmps102
    go_wp2_with fail
    go_ret
    exact ⟨rfl, rfl⟩
  | some p =>
    simp only [ptrV, Option.map_some] at hp
    go_enter Try.func102, Try.ntmps102
    go_wp2_with fail
    go_ret
    exact ⟨rfl, rfl⟩
end
end Go.Proofs.Ythfgccibiajneaa

/-
  The table: Len, Vip, Pools, Valid.
-/
namespace Go.Proofs.Ythfgccibiajneaa
open Go.RowKit
section
variable {w w' : World} {b T m : Nat} {c : Cf} {E : List En} {M : List (Value × Value)}
theorem vlen_any (h : Vt w b T m c E M) : Calls Try.prog 51 #[.pointer (some ⟨T, 0, none⟩)] w fun e w' => e = .returned (.int .i64 (E.countP (fun e => e.2.isSome))) ∧ w' = w := by
  have lT := h.obj.lt
  have c1 := h.mcell
  have hl := h.mp.len vpMapT 3
  rw [h.ml] at hl
  clear h
  go_enter Try.func51, Try.ntmps51
  go_wp2_with fail
  go_ret
  exact ⟨rfl, rfl⟩
theorem vpools_any (h : Vt w b T m c E M) (i : Int) : Calls Try.prog 71 #[.pointer (some ⟨T, 0, none⟩), .int .i64 i] w fun e w' =>
    e = .returned (if hasE E i = true then ptrV (E[i.toNat]?.bind (·.2)) else .pointer none) ∧ w' = w := by
  have H := Lib.hid h
  have lT := h.obj.lt
  cases hh : hasE E i with
  | false =>
    have HH := Lib.hid hh
    clear h hh
    go_enter Try.func71, Try.ntmps71
    go_wp2_with fail
    refine (vhas_any H.out i).mono ?_
    rintro e w1 ⟨rfl, rfl⟩
    rw [HH.out]
    go_wp2_with fail
    go_ret
    exact ⟨rfl, rfl⟩
  | true =>
    have HH := Lib.hid hh
    have h0 : 0 ≤ i := by
      by_cases h0 : i < 0
      · rw [hasE_neg h0] at hh; cases hh
      · omega
    have h1 : i < 16 := by
      by_cases h1 : (E.length : Int) ≤ i
      · rw [hasE_big h1] at hh; cases hh
      · have := h.len; omega
    obtain ⟨j, rfl⟩ : ∃ j : Nat, i = j := ⟨i.toNat, by omega⟩
    obtain ⟨e, he⟩ : ∃ e, E[j]? = some e := ⟨_, List.getElem?_eq_getElem (by rw [h.len]; omega)⟩
    have hp := h.pcell he
    have hv : E[(j : Int).toNat]?.bind (·.2) = e.2 := by rw [Int.toNat_natCast, he]; rfl
    rw [hv]
    clear h hh he hv
    go_enter Try.func71, Try.ntmps71
    go_wp2_with fail
    refine (vhas_any H.out j).mono ?_
    rintro e1 w1 ⟨rfl, rfl⟩
    rw [HH.out]
    go_wp2_with fail
    go_ret
    exact ⟨rfl, rfl⟩
theorem tc_vp (hl : E.length = 16) {i : Nat} {e : En} (he : E[i]? = some e) : (tc c E m).extract (48 + i * 20) (48 + i * 20 + 19) = vpc e.1 :=
  ext_of (vpc_size _) (by have := (List.getElem?_eq_some_iff.1 he).1; rw [tc_size hl]; omega) fun j hj => by
    have := tc_en (c := c) (m := m) i j (List.getElem?_eq_some_iff.1 he).1 (by omega)
    rw [he, Option.bind_some, ec_vp _ j hj] at this
    rw [← this]; congr 1; omega
theorem Vt.vp (h : Vt w b T m c E M) {i : Nat} {e : En} (he : E[i]? = some e) : aggAt w T (48 + i * 20) 19 = vpc e.1 ∧ aggOk w T (48 + i * 20) 19 = true := by
  have := h.obj.agg (48 + i * 20) 19 (by have := (List.getElem?_eq_some_iff.1 he).1; have := h.len; rw [tc_size h.len]; omega)
  exact ⟨this.1.trans (tc_vp h.len he), this.2⟩
theorem results_row_tmp {P : Program} {fn : Func} {p u : Tmp} {ty : TypeId} (h : fn.results = #[.cell p ty, .tmp u]) (tmps : Array Value) (w : World) (g : Nat) (t : TypeId) (cs : Array Value) (fr : Nat × Nat) (d : TypeDesc)
    (hp : tmps.getD p undef = .pointer (some ⟨g, 0, none⟩)) (hg : w.heap[g]? = some (.cells cs t fr))
    (hu : P.underlying ty = some d) (hd : (match d with | .struct _ | .array _ _ => true | _ => false) = true) (hi : (P.info? ty).map (·.size) = some cs.size) :
    (results fn tmps).run P w = .ok (.tuple #[.agg cs, tmps.getD u undef]) w := by
  have hp' : tmps[p]?.getD undef = .pointer (some ⟨g, 0, none⟩) := by simpa using hp
  simp [results, h, hp', asAddr, run_loadVar_row w g t ty cs fr d hg hu hd hi, Result.andThen]
end
end Go.Proofs.Ythfgccibiajneaa

/-
  The table: Vip.
-/
namespace Go.Proofs.Ythfgccibiajneaa
open Go.RowKit
theorem exec_bldV (parts : Array (Nat × Operand)) (dst : Option Tmp) (ty : TypeId) (pos : String) (after : Array Edge) (g : Option (Nat × Bool)) (f : Operand → Value) (w : World) :
    (execOp f ⟨dst, .build 86 parts, ty, pos, after, g⟩).run Try.prog w = bldX Try.prog 86 (parts.map fun (i, x) => (i, f x)) w := rfl
attribute [local go_sem ↓] exec_bldV
theorem build_vz (w : World) : bldX Try.prog 86 #[] w = .ok (.value (.agg (vpc vz))) w := bldX_of w (by kernel_rfl)
section
variable {w w' : World} {b T m : Nat} {c : Cf} {E : List En} {M : List (Value × Value)}
theorem hasE_in (h : Vt w b T m c E M) {i : Int} (hh : hasE E i = true) : ∃ (j : Nat) (v : Vp) (p : Nat), i = j ∧ j < 16 ∧ E[j]? = some (v, some p) := by
  have h0 : 0 ≤ i := by
    by_cases h0 : i < 0
    · rw [hasE_neg h0] at hh; cases hh
    · omega
  have h1 : i < 16 := by
    by_cases h1 : (E.length : Int) ≤ i
    · rw [hasE_big h1] at hh; cases hh
    · have := h.len; omega
  obtain ⟨j, rfl⟩ : ∃ j : Nat, i = j := ⟨i.toNat, by omega⟩
  obtain ⟨⟨v, q⟩, he⟩ : ∃ e, E[j]? = some e := ⟨_, List.getElem?_eq_getElem (by rw [h.len]; omega)⟩
  rw [hasE_at he] at hh
  cases q with
  | none => cases hh
  | some p => exact ⟨j, v, p, rfl, by omega, he⟩
set_option maxRecDepth 100000 in
set_option maxHeartbeats 4000000 in
theorem vvip_no (h : Vt w b T m c E M) (i : Int) (hh : hasE E i = false) : Calls Try.prog 49 #[.pointer (some ⟨T, 0, none⟩), .int .i64 i] w fun e w' =>
    e = .returned (.tuple #[.agg (vpc vz), .bool false]) ∧ Below w.heap.size w w' := by
  have HA := Lib.hid (fun o => h.alloc o)
  have HH := Lib.hid hh
  clear h hh
  go_enter Try.func49, Try.ntmps49
  go_wp2_with fail
  obtain ⟨g, hg⟩ : ∃ g, g = w.heap.size := ⟨_, rfl⟩
  obtain ⟨Z, hZ⟩ : ∃ Z : Array Value, Z = #[.int .u8 0, .bool false, .int .u8 0, .int .u8 0, .int .u8 0, .int .u8 0, .int .u8 0, .int .u8 0, .int .u8 0, .int .u8 0, .int .u8 0, .int .u8 0, .int .u8 0, .int .u8 0, .int .u8 0, .int .u8 0, .int .u8 0, .int .u8 0, .int .u16 0] := ⟨_, rfl⟩
  rw [← hg, ← hZ]
  have hs : Z.size = 19 := by rw [hZ]; rfl
  have HZ := Lib.hid (at_new w 86 Z g hg)
  have HB := Lib.hid ((Below.refl w.heap.size w).alloc (Nat.le_refl _) (.cells Z 86))
  have H := Lib.hid (HA.out (.cells Z 86))
  have HG := Lib.hid (show w.heap.size ≤ g by omega)
  clear hg hZ HA
  generalize w.alloc (.cells Z 86) = W at *
  refine (vhas_any H.out i).mono ?_
  rintro e w1 ⟨rfl, rfl⟩
  rw [HH.out]
  have f0 := HZ.out.frozen 0
  have l0 := HZ.out.lt
  have hst := store_at (P := Try.prog) w1 g 0 86 Z (vpc vz) HZ.out (by rw [vpc_size, hs]; omega) (vp_one _)
  have hat := At.setCells (vpc vz).toList 0 w1 Z HZ.out
  rw [splice_all Z (vpc vz) (by rw [vpc_size, hs])] at hat
  have HW := Lib.hid hat
  have HB2 := Lib.hid (HB.out.trans (mod_below (Mod.setCells (M := fun i => i = g) rfl (vpc vz).toList 0 w1) HB.out.size (fun i hi => by rw [hi]; exact HG.out)))
  have hb0 := build_vz
  clear hat
  go_wp2_with fail
  have hl := run_loadVar_row (P := Try.prog) (w1.setCells g 0 (vpc vz).toList) g 86 86 _ (0, 0) _ HW.out Try.underlying86 rfl (by rw [vpc_size]; exact sizeVp)
  exact bodyPost_ret (v := .tuple #[.agg (vpc vz), .bool false]) (by simp [results, Try.results49, asAddr, hl]) rfl ⟨rfl, HB2.out⟩
set_option maxRecDepth 100000 in
set_option maxHeartbeats 4000000 in
theorem vvip_yes (h : Vt w b T m c E M) (i : Nat) (v : Vp) (p : Nat) (he : E[i]? = some (v, some p)) : Calls Try.prog 49 #[.pointer (some ⟨T, 0, none⟩), .int .i64 (i : Nat)] w fun e w' =>
    e = .returned (.tuple #[.agg (vpc v), .bool true]) ∧ Below w.heap.size w w' := by
  have hj : i < 16 := by have := (List.getElem?_eq_some_iff.1 he).1; rw [h.len] at this; exact this
  have hjz : (i : Int) < 16 := by omega
  have hh := hasE_at he
  have HE := Lib.hid he
  have HA := Lib.hid (fun o => h.alloc o)
  have HH := Lib.hid (show hasE E (i : Int) = true from hh)
  clear h hh he
  go_enter Try.func49, Try.ntmps49
  go_wp2_with fail
  obtain ⟨g, hg⟩ : ∃ g, g = w.heap.size := ⟨_, rfl⟩
  obtain ⟨Z, hZ⟩ : ∃ Z : Array Value, Z = #[.int .u8 0, .bool false, .int .u8 0, .int .u8 0, .int .u8 0, .int .u8 0, .int .u8 0, .int .u8 0, .int .u8 0, .int .u8 0, .int .u8 0, .int .u8 0, .int .u8 0, .int .u8 0, .int .u8 0, .int .u8 0, .int .u8 0, .int .u8 0, .int .u16 0] := ⟨_, rfl⟩
  rw [← hg, ← hZ]
  have hs : Z.size = 19 := by rw [hZ]; rfl
  have HZ := Lib.hid (at_new w 86 Z g hg)
  have HB := Lib.hid ((Below.refl w.heap.size w).alloc (Nat.le_refl _) (.cells Z 86))
  have H := Lib.hid (HA.out (.cells Z 86))
  have HG := Lib.hid (show w.heap.size ≤ g by omega)
  clear hg hZ HA
  generalize w.alloc (.cells Z 86) = W at *
  refine (vhas_any H.out i).mono ?_
  rintro e w1 ⟨rfl, rfl⟩
  rw [HH.out]
  have f0 := HZ.out.frozen 0
  have l0 := HZ.out.lt
  obtain ⟨ha, hao⟩ := H.out.vp HE.out
  have hlt := H.out.obj.lt
  have hst := store_at (P := Try.prog) w1 g 0 86 Z (vpc v) HZ.out (by rw [vpc_size, hs]; omega) (vp_one _)
  have hat := At.setCells (vpc v).toList 0 w1 Z HZ.out
  rw [splice_all Z (vpc v) (by rw [vpc_size, hs])] at hat
  have HW := Lib.hid hat
  have HB2 := Lib.hid (HB.out.trans (mod_below (Mod.setCells (M := fun i => i = g) rfl (vpc v).toList 0 w1) HB.out.size (fun i hi => by rw [hi]; exact HG.out)))
  clear hat
  go_wp2_with fail
  have hl := run_loadVar_row (P := Try.prog) (w1.setCells g 0 (vpc v).toList) g 86 86 _ (0, 0) _ HW.out Try.underlying86 rfl (by rw [vpc_size]; exact sizeVp)
  exact bodyPost_ret (v := .tuple #[.agg (vpc v), .bool true]) (by simp [results, Try.results49, asAddr, hl]) rfl ⟨rfl, HB2.out⟩
end
end Go.Proofs.Ythfgccibiajneaa

/-
  vips.Valid, key.Vip.
-/
namespace Go.Proofs.Ythfgccibiajneaa
open Go.RowKit
set_option maxRecDepth 100000 in
set_option maxHeartbeats 4000000 in
theorem vval_any (k : Vp) (w : World) : Calls Try.prog 69 #[.agg (vpc k)] w fun e w' => e = .returned (.bool (vipOk k)) ∧ Below w.heap.size w w' := by
  have HK := Lib.hid (show vipOk k = ((decide (k.pr = 6) || decide (k.pr = 17)) && vld k.a) from rfl)
  have hc : (((k.pr : Int) == 6) = true ∧ (decide (k.pr = 6) || decide (k.pr = 17)) = true) ∨ (((k.pr : Int) == 6) = false ∧ ((k.pr : Int) == 17) = true ∧ (decide (k.pr = 6) || decide (k.pr = 17)) = true) ∨
      (((k.pr : Int) == 6) = false ∧ ((k.pr : Int) == 17) = false ∧ (decide (k.pr = 6) || decide (k.pr = 17)) = false) := by
    simp only [beq_iff_eq, beq_eq_false_iff_ne, Bool.or_eq_true, Bool.or_eq_false_iff, ne_eq, decide_eq_true_eq, decide_eq_false_iff_not]
    omega
  rcases hc with ⟨h1, hp⟩ | ⟨h1, h2, hp⟩ | ⟨h1, h2, hp⟩
  case inr.inr =>
    rw [hp] at HK
    clear hp
    go_enter Try.func69, Try.ntmps69
    go_wp2_with fail
    go_ret
    exact ⟨by rw [HK.out]; rfl, (Below.refl _ w).alloc (Nat.le_refl _) _⟩
  all_goals
    rw [hp] at HK
    clear hp
    go_enter Try.func69, Try.ntmps69
    go_wp2_with fail
    refine (valid_any k.a _).mono ?_
    rintro e w1 ⟨rfl, rfl⟩
    rw [Bool.true_and] at HK
    have HK2 := Lib.hid HK.out
    clear HK
    generalize vld k.a = z at *
    cases z <;>
    · go_wp2_with fail
      go_ret
      exact ⟨by rw [HK2.out]; rfl, ((Below.refl _ w).alloc (Nat.le_refl _) _).alloc (by simp) _⟩
/-- What a flow asks for. -/
def kvip (k : Ky) : Vp := ⟨k.proto, k.dst, k.dp, k.hp, k.hd⟩
end Go.Proofs.Ythfgccibiajneaa

/-
  A map of one's own, keyed by whatever is 'Keyed': an entry is made, and given its value behind.
-/
namespace Go.Proofs.Ythfgccibiajneaa
open Go.RowKit Go.MapKept
variable {P : Program} {kt t e : TypeId} {w w' : World} {m : Nat} {L : List (Value × Value)}
/-- 'x[m] = ..' beside other things: the entry first, its value behind. -/
theorem Mk.entry_new (h : Mk P kt w m L) (ht : P.underlying t = some (.map kt e)) {key z : Value} (hz : (zeroValue e).run P w = .ok z w) (K : Maps.Keyed P kt) (hk : KeyV P kt key) (hv : ∀ x ∈ L, x.1 ≠ key) :
    ∃ st w1, (Instr.mapEntry t (.map (some m)) key).run P w = .ok (.tuple #[z, .int .i64 st]) w1 ∧ Mod (fun g => g = m) w w1 ∧ w1.heap.size = w.heap.size ∧
      ∀ v w2, w2.heap[m]? = w1.heap[m]? → ∃ w3, (Instr.entryStore t (.map (some m)) (.int .i64 st) v).run P w2 = .ok () w3 ∧ Mk P kt w3 m (L ++ [(key, v)]) ∧ Mod (fun g => g = m) w2 w3 ∧ w3.heap.size = w2.heap.size := by
  obtain ⟨es, c, h1, h2, hs, hc, h3⟩ := h.find K hk
  rcases h3 with ⟨h3, h4⟩ | ⟨j, u, h3, h4⟩
  · have hs2 := (stamped_iff es c).1 hs
    refine ⟨c, { w with heap := w.heap.setIfInBounds m (.map (es.push ⟨key, z, c⟩) (c + 1)) }, by simp [Instr.mapEntry, run_underlying ht, MapKept.run_getObj_map h1, hc, h3, hz, MapKept.run_setObj_map _ h1, Result.andThen, goInt], mod_set, size_set, fun v w2 hw2 => ?_⟩
    have hw3 : w2.heap[m]? = some (.map (es.push ⟨key, z, c⟩) (c + 1)) := by rw [hw2]; exact (MapKept.heap_set h1).1
    have hidx : (es.push ⟨key, z, c⟩).findIdx? (fun e => ((e.born : Nat) : Int) == ((c : Nat) : Int)) = some es.size := by
      rw [WideElems.findIdx_arr]
      exact WideElems.findIdx_born (l := (es.push ⟨key, z, c⟩).toList) (j := es.size) (e0 := ⟨key, z, c⟩) (by
        simp only [Array.toList_push, List.map_append, List.map_cons, List.map_nil]
        refine List.nodup_append.2 ⟨hs2.2.1, by simp, fun a ha c' hc' e1 => ?_⟩
        simp only [List.mem_singleton] at hc'
        obtain ⟨x, hx, rfl⟩ := List.mem_map.1 ha
        have := hs2.1 x hx
        omega) (by simp)
    have hmod : (es.push ⟨key, z, c⟩).modify es.size (fun e => { e with val := v }) = es.push ⟨key, v, c⟩ := by
      apply Array.ext'
      rw [Array.toList_modify, Array.toList_push, Array.toList_push, ← Array.length_toList, WideElems.modify_last]
    refine ⟨{ w2 with heap := w2.heap.setIfInBounds m (.map (es.push ⟨key, v, c⟩) (c + 1)) }, by simp [Instr.entryStore, MapKept.run_getObj_map hw3, asInt, asIntOf, hidx, hmod, MapKept.run_setObj_map _ hw3, Result.andThen], ⟨es.push ⟨key, v, c⟩, c + 1, (MapKept.heap_set hw3).1, by simp [h2], stamped_push hs (fun x hx => h4 (x.key, x.val) (h2 ▸ List.mem_map_of_mem hx)), ?_⟩, mod_set, size_set⟩
    intro x hx
    rcases List.mem_append.1 hx with hx | hx
    · exact h.keys x hx
    · simp only [List.mem_singleton] at hx; subst hx; exact hk
  · exact absurd rfl (hv _ (List.mem_of_getElem? h4))
end Go.Proofs.Ythfgccibiajneaa
