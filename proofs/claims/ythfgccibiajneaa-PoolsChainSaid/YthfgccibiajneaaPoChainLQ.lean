/-
  PoolsChain: pool by pool, each is filled of the one that was made last.
-/
import Derived.Test.YthfgccibiajneaaPoServeLQ
import Derived.Test.YthfgccibiajneaaPoRfFillQ
namespace Go.Proofs.Ythfgccibiajneaa
open Go.RowKit Go.Shelf
theorem cok_roomy3 (n : Nat) (h1 : 1 ≤ n) (h2 : n ≤ 64) : cok ((roomy 3).setS (n : Int)) = true := by
  have h : ((List.range 65).all fun k => k == 0 || cok ((roomy 3).setS (k : Int))) = true := by kernel_rfl
  rw [List.all_eq_true] at h
  have := h n (List.mem_range.2 (by omega))
  simp only [Bool.or_eq_true, beq_iff_eq] at this
  rcases this with h | h
  · omega
  · exact h
set_option maxRecDepth 100000 in
set_option maxHeartbeats 8000000 in
theorem pchain_any (sl : Int) (aw : Option Addr) (nw cw : Nat) (ws : List Int) (w : World) (hw : Ints w aw nw ws) (hwf : ∀ x ∈ ws, -9223372036854775808 ≤ x ∧ x ≤ 9223372036854775807) :
    Calls Try.prog 5 #[.int .i64 sl, .slice aw nw cw] w fun e w' => e = .returned (.bool true) ∧ Below w.heap.size w w' := by
  by_cases h14 : 14 < nw
  · have d0 : decide ((14 : Int) < (nw : Int)) = true := by simp; omega
    have e0 : decide (14 < nw) = true := by simpa using h14
    clear h14 hw hwf
    go_enter Try.func5, Try.ntmps5
    go_wp2_with fail
    refine (pawake_any _).mono ?_
    rintro e w1 ⟨rfl, hb⟩
    have HB := Lib.hid hb
    clear hb
    go_wp2_with fail
    go_ret
    exact ⟨rfl, HB.out⟩
  · have d0 : decide ((14 : Int) < (nw : Int)) = false := by simp; omega
    have e0 : decide (14 < nw) = false := by simpa using h14
    have hw14 : nw ≤ 14 := by omega
    have HW := Lib.hid hw
    have HWF := Lib.hid hwf
    obtain ⟨q, hq⟩ : ∃ q : Nat, sl % 64 = q := ⟨(sl % 64).toNat, by omega⟩
    have hq64 : q < 64 := by omega
    have HQ := Lib.hid hq
    obtain ⟨n, hn⟩ : ∃ n, n = 1 + q := ⟨_, rfl⟩
    have hn1 : 1 ≤ n := by omega
    have hn2 : n ≤ 64 := by omega
    have hnz : (1 : Int) + (q : Int) = (n : Int) := by omega
    have hst := fun (w : World) (n : Nat) (Z : Array Value) (hn : n = w.heap.size) (hZ : Z.size = 48) => store_new (P := Try.prog) sizeC w n Z (cc (roomy 3)) hn hZ (cc_size _) (cc_one _)
    have KR := Lib.hid (fun w => roomy_below 3 w)
    have OK := Lib.hid (cok_roomy3 n hn1 hn2)
    have hsl := Lib.hid (show ((roomy 3).setS (n : Int)).slots = (n : Int) from rfl)
    have hve := Lib.hid (show ((roomy 3).setS (n : Int)).versions = ((16 : Nat) : Int) from rfl)
    generalize roomy 3 = c0 at *
    clear h14 hw hwf hq hn
    go_enter Try.func5, Try.ntmps5
    go_wp2_with fail
    refine (KR.out _).mono ?_
    rintro e w1 ⟨rfl, hb⟩
    have HB := Lib.hid hb
    clear hb d0 e0
    go_upto_region 4 with fail
    obtain ⟨g, hg⟩ : ∃ g, g = w1.heap.size := ⟨_, rfl⟩
    rw [← hg]
    have HC := Lib.hid (at_new w1 27 (cc c0) g hg)
    have HG := Lib.hid (show w.heap.size ≤ g by rw [hg]; exact HB.out.size)
    replace HB := Lib.hid (HB.out.alloc HB.out.size (.cells (cc c0) 27))
    clear hg hst
    generalize w1.alloc (.cells (cc c0) 27) = W at *
    go_wp2_with fail
    refine (round_big sl 64 (by omega) (by omega) _).mono ?_
    rintro e w2 ⟨rfl, rfl⟩
    rw [HQ.out]
    have hc2 := HC.out.set 5 (.int .i64 (n : Int))
    rw [cc_setS] at hc2
    have HC2 := Lib.hid hc2
    replace HB := Lib.hid (HB.out.setCell (p := ⟨g, 5, none⟩) HG.out (.int .i64 (n : Int)))
    have c6 := HC.out.cell 5
    rw [cl_head _ 5 (by omega)] at c6
    simp only [Cf.head, List.getElem?_cons_succ, List.getElem?_cons_zero] at c6
    have f6 := HC.out.frozen 5
    have l6 := HC.out.lt
    clear HC hc2
    go_upto_region 5 with fail
    clear c6 f6 l6 hnz
    generalize w2.setCell ⟨g, 5, none⟩ (.int .i64 (n : Int)) = W2 at *
    generalize c0.setS (n : Int) = c at *
    have r1 := HC2.out.row
    have o1 := HC2.out.open
    have l1 := HC2.out.lt
    refine region_sq (fun _ => False) [(0, true), (1, false), (2, false), (3, true), (4, true), (5, true), (6, true), (7, true)] (by kernel_rfl) (by kernel_rfl) (fun _ _ d _ _ h => by cases d <;> exact h) ?_
    repeat (first
      | (refine sq_yes rfl (by rfl) (fun w' hM => by ((try replace hM := hM.of_drew); obtain ⟨hR1, hR2, hR3⟩ := hM.rules; have hA := hM.agg; obtain ⟨hA1, hA2⟩ := hA; clear hM; go_simp; with_reducible rfl)) ?_; simp only [Act.put, List.setIfInBounds_toArray, List.set_cons_zero, List.set_cons_succ])
      | (refine sq_no rfl (by rfl) ?_; simp only [Act.put, List.setIfInBounds_toArray, List.set_cons_zero, List.set_cons_succ]))
    refine sq_do_yes rfl (by rfl) (fun K hK => ?_)
    go_wp2_with fail
    refine (some_any 1 4 (by omega) _).mono ?_
    rintro e w3 ⟨v3, rfl, hs3, hb3⟩
    have HS3 := Lib.hid hs3
    obtain ⟨a3, c3, hv3⟩ := hs3.form
    rw [som_len] at hv3
    simp only [show ((4 : Int) % 6).toNat = 4 from rfl] at hv3
    subst hv3
    replace HB := Lib.hid (step_below HB.out.drew hb3)
    replace HC2 := Lib.hid (HC2.out.drew.below hb3 HC2.out.lt)
    clear hs3
    go_wp2_with fail
    refine ⟨Mod.of_below hb3, ?_⟩
    clear hb3 r1 o1 l1
    repeat (first
      | (refine sq_yes rfl (by rfl) (fun w' hM => by ((try replace hM := hM.of_drew); obtain ⟨hR1, hR2, hR3⟩ := hM.rules; have hA := hM.agg; obtain ⟨hA1, hA2⟩ := hA; clear hM; go_simp; with_reducible rfl)) ?_; simp only [Act.put, List.setIfInBounds_toArray, List.set_cons_zero, List.set_cons_succ])
      | (refine sq_no rfl (by rfl) ?_; simp only [Act.put, List.setIfInBounds_toArray, List.set_cons_zero, List.set_cons_succ]))
    refine sq_do_yes rfl (by rfl) (fun K hK => ?_)
    go_wp2_with fail
    refine (pnew_any c a3 4 c3 n 16 (som 1 4) _ (HS3.out.rd Mb.len).1 (som_ok _ _) OK.out hsl.out hve.out hn1 hn2 (by omega) (by omega)).mono ?_
    rintro e w4 ⟨p, t, lv, sv, rfl, hP, hb4⟩
    have HBB := Lib.hid HB.out.size
    have HGB := Lib.hid (show g < w3.heap.size from HC2.out.lt)
    replace HB := Lib.hid (step_below HB.out hb4)
    replace HC2 := Lib.hid (HC2.out.below hb4 HC2.out.lt)
    have HP := Lib.hid hP
    clear hP HS3
    go_wp2_with fail
    refine ⟨Mod.of_below hb4, ?_⟩
    clear hb4
    repeat (first
      | (refine sq_yes rfl (by rfl) (fun w' hM => by ((try replace hM := hM.of_drew); obtain ⟨hR1, hR2, hR3⟩ := hM.rules; have hA := hM.agg; obtain ⟨hA1, hA2⟩ := hA; clear hM; go_simp; with_reducible rfl)) ?_; simp only [Act.put, List.setIfInBounds_toArray, List.set_cons_zero, List.set_cons_succ])
      | (refine sq_no rfl (by rfl) ?_; simp only [Act.put, List.setIfInBounds_toArray, List.set_cons_zero, List.set_cons_succ]))
    refine sq_end ?_
    have HSL := Lib.hid (fillR_len [] (som 1 4) n (som_ok _ _))
    have HSH := Lib.hid (show Sh 16 ((List.replicate 16 v0).set 0 ⟨sv, fillR [] (som 1 4) n, 0, false⟩) (fun j => decide (1 ≤ j) && decide (j < 0 + 1)) from ⟨by simp, (fun j x hx => by
      have hr : (decide (1 ≤ j) && decide (j < 0 + 1)) = false := by simp; omega
      show x.refs = 0 ∧ x.res = (decide (1 ≤ j) && decide (j < 0 + 1)) ∧ x.S.length ≤ 64
      rw [hr]
      rw [List.getElem?_set, List.getElem?_replicate] at hx
      split at hx
      · split at hx
        · simp only [Option.some.injEq] at hx
          subst hx
          exact ⟨rfl, rfl, by have := HSL.out; simp only; omega⟩
        · cases hx
      · split at hx
        · simp only [Option.some.injEq] at hx
          subst hx
          exact ⟨rfl, rfl, by simp [v0]⟩
        · cases hx)⟩)
    obtain ⟨S0, hS0⟩ : ∃ S0, S0 = fillR [] (som 1 4) n := ⟨_, rfl⟩
    have HS0 := Lib.hid hS0
    rw [← hS0] at HP HSL HSH
    generalize (List.replicate 16 v0).set 0 ⟨sv, S0, 0, false⟩ = vs0 at *
    generalize som 1 4 = L0 at HP
    obtain ⟨B, hB⟩ : ∃ B, B = w3.heap.size := ⟨_, rfl⟩
    rw [← hB] at HP HBB HGB
    clear hS0 hB
    go_wp2_with fail
    have c5 := HC2.out.cell 5
    rw [cl_head _ 5 (by omega)] at c5
    simp only [Cf.head, List.getElem?_cons_succ, List.getElem?_cons_zero, hsl.out] at c5
    have lg := HC2.out.lt
    refine region_sq (fun _ => False) [(1, true), (2, true), (0, false), (3, false), (4, true), (5, true), (6, true), (7, true), (8, true)] (by kernel_rfl) (by kernel_rfl) (fun _ _ d _ _ h => by cases d <;> exact h) ?_
    repeat (first
      | (refine sq_yes rfl (by rfl) (fun w' hM => by ((try replace hM := hM.of_drew); obtain ⟨hR1, hR2, hR3⟩ := hM.rules; have hA := hM.agg; obtain ⟨hA1, hA2⟩ := hA; clear hM; go_simp; with_reducible rfl)) ?_; simp only [Act.put, List.setIfInBounds_toArray, List.set_cons_zero, List.set_cons_succ])
      | (refine sq_no rfl (by rfl) ?_; simp only [Act.put, List.setIfInBounds_toArray, List.set_cons_zero, List.set_cons_succ]))
    clear c5 lg
    refine sq_do_yes rfl (by rfl) (fun K hK => ?_)
    go_wp2_with fail
    refine (some_any 1 4 (by omega) _).mono ?_
    rintro e w5 ⟨v5, rfl, hs5, hb5⟩
    have HS5 := Lib.hid hs5
    obtain ⟨a5, c5, hv5⟩ := hs5.form
    rw [som_len] at hv5
    simp only [show ((4 : Int) % 6).toNat = 4 from rfl] at hv5
    subst hv5
    replace HB := Lib.hid (step_below HB.out.drew hb5)
    replace HC2 := Lib.hid (HC2.out.drew.below hb5 HC2.out.lt)
    replace HP := Lib.hid (HP.out.drew.below hb5)
    clear hs5
    go_wp2_with fail
    refine ⟨Mod.of_below hb5, ?_⟩
    clear hb5
    repeat (first
      | (refine sq_yes rfl (by rfl) (fun w' hM => by ((try replace hM := hM.of_drew); obtain ⟨hR1, hR2, hR3⟩ := hM.rules; have hA := hM.agg; obtain ⟨hA1, hA2⟩ := hA; clear hM; go_simp; with_reducible rfl)) ?_; simp only [Act.put, List.setIfInBounds_toArray, List.set_cons_zero, List.set_cons_succ])
      | (refine sq_no rfl (by rfl) ?_; simp only [Act.put, List.setIfInBounds_toArray, List.set_cons_zero, List.set_cons_succ]))
    refine sq_do_yes rfl (by rfl) (fun K hK => ?_)
    go_wp2_with fail
    refine (rfill_any none a5 0 0 4 c5 n [] (som 1 4) _ (Rd.zero _ _ _ _) (HS5.out.rd Mb.len).1 (som_ok _ _) hn1 hn2 (.inl rfl)).mono ?_
    rintro e w6 ⟨v6, rfl, hs6, hb6⟩
    rw [← HS0.out] at hs6
    have HS6 := Lib.hid (hs6.base (show B ≤ w5.heap.size from HP.out.le))
    replace HB := Lib.hid (step_below HB.out hb6)
    replace HC2 := Lib.hid (HC2.out.below hb6 HC2.out.lt)
    replace HP := Lib.hid (HP.out.below hb6)
    clear hs6 HS5 HS0
    go_wp2_with fail
    refine ⟨Mod.of_below hb6, ?_⟩
    clear hb6
    repeat (first
      | (refine sq_yes rfl (by rfl) (fun w' hM => by ((try replace hM := hM.of_drew); obtain ⟨hR1, hR2, hR3⟩ := hM.rules; have hA := hM.agg; obtain ⟨hA1, hA2⟩ := hA; clear hM; go_simp; with_reducible rfl)) ?_; simp only [Act.put, List.setIfInBounds_toArray, List.set_cons_zero, List.set_cons_succ])
      | (refine sq_no rfl (by rfl) ?_; simp only [Act.put, List.setIfInBounds_toArray, List.set_cons_zero, List.set_cons_succ]))
    refine sq_end ?_
    go_wp2_with fail
    go_loopw [8, 10, 11, 12, 13, 14] (fun s8 s10 _ _ _ _ wx => ∃ (i : Nat) (vs : List V) (lv1 sv1 : Value) (L1 : List Mb) (S : List Dp), s10 = .int .i64 (i : Nat) ∧ i ≤ nw ∧ Po wx B p t c vs 0 lv1 L1 sv1 S ∧ Sh 16 vs (fun j => decide (1 ≤ j) && decide (j < i + 1)) ∧ (S.length = 0 ∨ S.length = n) ∧ Sl 18 Dp.l 92 wx B s8 S ∧ At wx g 27 (cc c) ∧ Below w.heap.size w wx) (fun _ s10 _ _ _ _ _ => nw - (intOf s10).toNat)
    case atStart => exact ⟨0, vs0, lv, sv, L0, S0, rfl, Nat.zero_le _, HP.out, HSH.out, HSL.out, HS6.out, HC2.out, HB.out⟩
    case round =>
      clear HP HSH HSL HS6 HC2 HB
      obtain ⟨i, vs, lv1, sv1, L1, S, rfl, hi, hP, hSH, hSL, hS, hC, hb⟩ := hrel
      have HP := Lib.hid hP
      have HH := Lib.hid hSH
      have HSL := Lib.hid hSL
      have HS := Lib.hid hS
      have HC := Lib.hid hC
      have HB := Lib.hid hb
      clear hP hSH hSL hS hC hb
      by_cases hlt : i < nw
      · have hltz : (i : Int) < (nw : Int) := by omega
        have hltd : decide (i < nw) = true := by simpa using hlt
        obtain ⟨bw, ow, haw, hbw, hcw⟩ := HW.out.2 (by omega)
        have cw0 := hcw i (by omega)
        obtain ⟨x, hx⟩ : ∃ x, x = ws.getD i 0 := ⟨_, rfl⟩
        rw [← hx] at cw0
        have HXB := Lib.hid (show -9223372036854775808 ≤ x ∧ x ≤ 9223372036854775807 by
          rw [hx, List.getD_eq_getElem?_getD, List.getElem?_eq_getElem (by rw [HW.out.1]; omega)]
          exact HWF.out _ (List.getElem_mem _))
        have CW := Lib.hid (And.intro cw0 hbw)
        subst haw
        obtain ⟨y, hy⟩ : ∃ y, y = x.tdiv 2 := ⟨_, rfl⟩
        have hyb : -4611686018427387904 ≤ y ∧ y ≤ 4611686018427387904 := by
          have hxb := HXB.out
          rw [hy]
          rcases Int.le_total 0 x with h | h
          · rw [Int.tdiv_eq_ediv_of_nonneg h]; omega
          · have e : x.tdiv 2 = -((-x).tdiv 2) := by rw [Int.neg_tdiv, Int.neg_neg]
            rw [e, Int.tdiv_eq_ediv_of_nonneg (by omega)]; omega
        have hy2 : Int.tdiv x 2 = y := hy.symm
        have hy3 : IntKind.i64.wrap y = y := by rw [IntKind.wrap_i64]; omega
        have lbw : bw < wr.heap.size := Nat.lt_of_lt_of_le hbw HB.out.size
        have cwr := (HB.out.cell (p := ⟨bw, ow + i, none⟩) hbw).trans cw0
        have hbp : ¬ bw = p := by have := HBB.out; have := HP.out.bp; omega
        have hbt : ¬ bw = t := by have := HBB.out; have := HP.out.bt; omega
        have HBP := Lib.hid (And.intro hbp hbt)
        clear hcw cw0 hx hy hbw
        obtain ⟨aS, cS, hsS⟩ := HS.out.form
        obtain ⟨ls, hls⟩ : ∃ l, l = S.length := ⟨_, rfl⟩
        rw [← hls] at hsS
        have HLS := Lib.hid (show ls = 0 ∨ ls = n by rw [hls]; exact HSL.out)
        subst hsS
        clear hls
        go_wp2_with fail
        refine region_sq (fun z => z = p ∨ z = t) [(0, true), (1, true), (2, true), (3, true), (4, true), (5, true), (6, true), (7, true), (8, true), (9, true), (10, false), (11, false), (12, true), (13, true), (14, true), (15, true), (16, true)] (by kernel_rfl) (by kernel_rfl) (fun _ _ d _ _ h => by cases d <;> exact h) ?_
        repeat (first
          | (refine sq_yes rfl (by rfl) (fun w' hM => by ((try replace hM := hM.of_drew); obtain ⟨hR1, hR2, hR3⟩ := hM.rules; have hA := hM.agg; obtain ⟨hA1, hA2⟩ := hA; clear hM; go_simp; with_reducible rfl)) ?_; simp only [Act.put, List.setIfInBounds_toArray, List.set_cons_zero, List.set_cons_succ])
          | (refine sq_no rfl (by rfl) ?_; simp only [Act.put, List.setIfInBounds_toArray, List.set_cons_zero, List.set_cons_succ]))
        clear cwr lbw hbp hbt
        refine sq_do_yes rfl (by rfl) (fun K hK => ?_)
        go_wp2_with fail
        refine (some_any x y HXB.out _).mono ?_
        rintro e w7 ⟨v7, rfl, hs7, hb7⟩
        have HS7 := Lib.hid hs7
        obtain ⟨a7, c7, hv7⟩ := hs7.form
        obtain ⟨l7, hl7⟩ : ∃ l, l = (som x y).length := ⟨_, rfl⟩
        rw [← hl7] at hv7
        subst hv7
        replace HP := Lib.hid (HP.out.drew.below hb7)
        replace HS := Lib.hid (HS.out.drew.below hb7)
        replace HC := Lib.hid (HC.out.drew.below hb7 HC.out.lt)
        replace HB := Lib.hid (step_below HB.out.drew hb7)
        clear hs7 hl7
        go_wp2_with fail
        refine ⟨Mod.of_below hb7, ?_⟩
        clear hb7
        repeat (first
          | (refine sq_yes rfl (by rfl) (fun w' hM => by ((try replace hM := hM.of_drew); obtain ⟨hR1, hR2, hR3⟩ := hM.rules; have hA := hM.agg; obtain ⟨hA1, hA2⟩ := hA; clear hM; go_simp; with_reducible rfl)) ?_; simp only [Act.put, List.setIfInBounds_toArray, List.set_cons_zero, List.set_cons_succ])
          | (refine sq_no rfl (by rfl) ?_; simp only [Act.put, List.setIfInBounds_toArray, List.set_cons_zero, List.set_cons_succ]))
        refine sq_do_yes rfl (by rfl) (fun K hK => ?_)
        go_wp2_with fail
        refine (reserve_at a7 l7 c7 _ n (i + 1) (som x y) HP.out HS7.out (som_ok _ _) hsl.out hn1 hn2 HSL.out (by rw [HH.out.1]; omega) (fun j hj => by
          rw [HH.out.live 0 j (by omega)]
          by_cases h0 : j = 0
          · rw [decide_eq_true h0]; rfl
          · rw [decide_eq_true (show 1 ≤ j by omega), decide_eq_true hj]; simp) (by
          rw [HH.out.live 0 (i + 1) (by omega), decide_eq_false (by omega), decide_eq_false (show ¬ i + 1 < i + 1 by omega)]; simp)).mono ?_
        rintro e w8 ⟨rfl, lv8, sv8, hP8, hm⟩
        replace HB := Lib.hid (hm.bel HP.out HBB.out HB.out)
        replace HC := Lib.hid (HC.out.mod hm (by have := HP.out.bp; have := HP.out.bt; have := HGB.out; omega))
        replace HS := Lib.hid (Sl.md HP.out hm HS.out)
        have HSL2 := Lib.hid (fillR_len S (som x y) n (som_ok _ _))
        obtain ⟨S2, hS2⟩ : ∃ S2, S2 = fillR S (som x y) n := ⟨_, rfl⟩
        have HS2 := Lib.hid hS2
        rw [← hS2] at HSL2 hP8
        replace HP := Lib.hid hP8
        have HX := Lib.hid (show (vs.set (i + 1) ⟨sv8, S2, 0, true⟩)[i + 1]? = some ⟨sv8, S2, 0, true⟩ by rw [List.getElem?_set_self]; rw [HH.out.1]; omega)
        replace HH := Lib.hid (HH.out.set (r' := fun j => decide (1 ≤ j) && decide (j < i + 1 + 1)) (k := i + 1) (x := ⟨sv8, S2, 0, true⟩) rfl (by have := HSL2.out; simp only; omega) (fun j _ => by
          by_cases hj : j = i + 1
          · subst hj
            rw [if_pos rfl, decide_eq_true (show 1 ≤ i + 1 by omega), decide_eq_true (show i + 1 < i + 1 + 1 by omega)]; rfl
          · rw [if_neg hj]
            congr 1
            rw [decide_eq_decide]
            omega))
        generalize vs.set (i + 1) ⟨sv8, S2, 0, true⟩ = vs2 at *
        clear hP8 HS7 HSL hS2
        go_wp2_with fail
        refine ⟨hm, ?_⟩
        clear hm
        repeat (first
          | (refine sq_yes rfl (by rfl) (fun w' hM => by ((try replace hM := hM.of_drew); obtain ⟨hR1, hR2, hR3⟩ := hM.rules; have hA := hM.agg; obtain ⟨hA1, hA2⟩ := hA; clear hM; go_simp; with_reducible rfl)) ?_; simp only [Act.put, List.setIfInBounds_toArray, List.set_cons_zero, List.set_cons_succ])
          | (refine sq_no rfl (by rfl) ?_; simp only [Act.put, List.setIfInBounds_toArray, List.set_cons_zero, List.set_cons_succ]))
        refine sq_end ?_
        have lbw : bw < w8.heap.size := Nat.lt_of_lt_of_le CW.out.2 HB.out.size
        have cwr := (HB.out.cell (p := ⟨bw, ow + i, none⟩) CW.out.2).trans CW.out.1
        have c5 := HC.out.cell 5
        rw [cl_head _ 5 (by omega)] at c5
        simp only [Cf.head, List.getElem?_cons_succ, List.getElem?_cons_zero, hsl.out] at c5
        have lg := HC.out.lt
        go_wp2_with fail
        refine region_sq (fun _ => False) [(0, true), (1, true), (2, true), (3, true), (4, true), (5, true), (6, true), (7, true), (8, true), (9, true), (11, true), (12, true), (10, false), (13, false), (14, true), (15, true), (16, true), (17, true), (18, true)] (by kernel_rfl) (by kernel_rfl) (fun _ _ d _ _ h => by cases d <;> exact h) ?_
        repeat (first
          | (refine sq_yes rfl (by rfl) (fun w' hM => by ((try replace hM := hM.of_drew); obtain ⟨hR1, hR2, hR3⟩ := hM.rules; have hA := hM.agg; obtain ⟨hA1, hA2⟩ := hA; clear hM; go_simp; with_reducible rfl)) ?_; simp only [Act.put, List.setIfInBounds_toArray, List.set_cons_zero, List.set_cons_succ])
          | (refine sq_no rfl (by rfl) ?_; simp only [Act.put, List.setIfInBounds_toArray, List.set_cons_zero, List.set_cons_succ]))
        clear cwr lbw c5 lg
        refine sq_do_yes rfl (by rfl) (fun K hK => ?_)
        go_wp2_with fail
        refine (some_any x y HXB.out _).mono ?_
        rintro e w9 ⟨v9, rfl, hs9, hb9⟩
        have HS9 := Lib.hid hs9
        obtain ⟨a9, c9, hv9⟩ := hs9.form
        obtain ⟨l9, hl9⟩ : ∃ l, l = (som x y).length := ⟨_, rfl⟩
        rw [← hl9] at hv9
        subst hv9
        replace HP := Lib.hid (HP.out.drew.below hb9)
        replace HS := Lib.hid (HS.out.drew.below hb9)
        replace HC := Lib.hid (HC.out.drew.below hb9 HC.out.lt)
        replace HB := Lib.hid (step_below HB.out.drew hb9)
        clear hs9 hl9
        go_wp2_with fail
        refine ⟨Mod.of_below hb9, ?_⟩
        clear hb9
        repeat (first
          | (refine sq_yes rfl (by rfl) (fun w' hM => by ((try replace hM := hM.of_drew); obtain ⟨hR1, hR2, hR3⟩ := hM.rules; have hA := hM.agg; obtain ⟨hA1, hA2⟩ := hA; clear hM; go_simp; with_reducible rfl)) ?_; simp only [Act.put, List.setIfInBounds_toArray, List.set_cons_zero, List.set_cons_succ])
          | (refine sq_no rfl (by rfl) ?_; simp only [Act.put, List.setIfInBounds_toArray, List.set_cons_zero, List.set_cons_succ]))
        refine sq_do_yes rfl (by rfl) (fun K hK => ?_)
        go_wp2_with fail
        refine (rfill_any aS a9 ls cS l9 c9 n S (som x y) _ (HS.out.rd Dp.l_length).1 (HS9.out.rd Mb.len).1 (som_ok _ _) hn1 hn2 HLS.out).mono ?_
        rintro e w10 ⟨v10, rfl, hs10, hb10⟩
        rw [← HS2.out] at hs10
        obtain ⟨a10, c10, hv10⟩ := hs10.form
        obtain ⟨l10, hl10⟩ : ∃ l, l = S2.length := ⟨_, rfl⟩
        have hl64 : l10 ≤ 4096 := by have := HSL2.out; omega
        rw [← hl10] at hv10
        subst hv10
        have HS10 := Lib.hid (hs10.base (show B ≤ w9.heap.size from HP.out.le))
        replace HP := Lib.hid (HP.out.below hb10)
        replace HC := Lib.hid (HC.out.below hb10 HC.out.lt)
        replace HB := Lib.hid (step_below HB.out hb10)
        clear hs10 hl10 HS9 HS
        go_wp2_with fail
        refine ⟨Mod.of_below hb10, ?_⟩
        clear hb10
        repeat (first
          | (refine sq_yes rfl (by rfl) (fun w' hM => by ((try replace hM := hM.of_drew); obtain ⟨hR1, hR2, hR3⟩ := hM.rules; have hA := hM.agg; obtain ⟨hA1, hA2⟩ := hA; clear hM; go_simp; with_reducible rfl)) ?_; simp only [Act.put, List.setIfInBounds_toArray, List.set_cons_zero, List.set_cons_succ])
          | (refine sq_no rfl (by rfl) ?_; simp only [Act.put, List.setIfInBounds_toArray, List.set_cons_zero, List.set_cons_succ]))
        refine sq_end ?_
        have lbw : bw < w10.heap.size := Nat.lt_of_lt_of_le CW.out.2 HB.out.size
        have cwr := (HB.out.cell (p := ⟨bw, ow + i, none⟩) CW.out.2).trans CW.out.1
        have hvi : ((i : Int) + 1 != (i : Int) + 1) = false := by simp
        have hwi : IntKind.i64.wrap ((i : Int) + 1) = (i : Int) + 1 := by rw [IntKind.wrap_i64]; omega
        have HLV := Lib.hid (show liveB vs2 0 ((i + 1 : Nat) : Int) = true by rw [liveB_at HX.out]; simp)
        go_wp2_with fail
        refine region_sq (fun _ => False) [(0, true), (1, true), (2, true), (3, true), (4, true), (5, true), (6, true), (7, true), (8, true), (9, true), (10, true), (11, true), (12, true), (13, true), (14, true), (15, true), (16, true), (17, true), (18, true), (20, true), (19, false), (21, false), (22, true), (23, true), (24, true), (25, true), (27, true), (28, true), (29, true), (30, true), (31, true), (32, true), (33, true), (34, true), (35, true), (26, false), (36, false), (37, false), (38, true), (39, true)] (by kernel_rfl) (by kernel_rfl) (fun _ _ d _ _ h => by cases d <;> exact h) ?_
        repeat (first
          | (refine sq_yes rfl (by rfl) (fun w' hM => by ((try replace hM := hM.of_drew); obtain ⟨hR1, hR2, hR3⟩ := hM.rules; have hA := hM.agg; obtain ⟨hA1, hA2⟩ := hA; clear hM; go_simp; with_reducible rfl)) ?_; simp only [Act.put, List.setIfInBounds_toArray, List.set_cons_zero, List.set_cons_succ])
          | (refine sq_no rfl (by rfl) ?_; simp only [Act.put, List.setIfInBounds_toArray, List.set_cons_zero, List.set_cons_succ]))
        clear hvi hwi
        refine sq_do_yes rfl (by rfl) (fun K hK => ?_)
        go_wp2_with fail
        rw [show (i : Int) + 1 = ((i + 1 : Nat) : Int) from rfl]
        refine (slots_any HP.out.drew (i + 1) _ HX.out HLV.out (by have := HSL2.out; simp only; omega)).mono ?_
        rintro e w11 ⟨v11, rfl, hs11, hb11⟩
        obtain ⟨a11, c11, hv11⟩ := hs11.form
        obtain ⟨l11, hl11⟩ : ∃ l, l = S2.length := ⟨_, rfl⟩
        have hl11b : l11 ≤ 4096 := by have := HSL2.out; omega
        have hv11b : v11 = .slice a11 l11 c11 := by rw [hl11]; exact hv11
        clear hv11
        subst hv11b
        have HS11 := Lib.hid hs11
        replace HP := Lib.hid (HP.out.drew.below hb11)
        replace HS10 := Lib.hid (HS10.out.drew.below hb11)
        replace HC := Lib.hid (HC.out.drew.below hb11 HC.out.lt)
        replace HB := Lib.hid (step_below HB.out.drew hb11)
        clear hs11 hl11
        go_wp2_with fail
        refine ⟨Mod.of_below hb11, ?_⟩
        replace lbw := Nat.lt_of_lt_of_le (show bw < w10.drew.heap.size from lbw) hb11.size
        replace cwr := (HB.out.cell (p := ⟨bw, ow + i, none⟩) CW.out.2).trans CW.out.1
        clear hb11
        repeat (first
          | (refine sq_yes rfl (by rfl) (fun w' hM => by ((try replace hM := hM.of_drew); obtain ⟨hR1, hR2, hR3⟩ := hM.rules; have hA := hM.agg; obtain ⟨hA1, hA2⟩ := hA; clear hM; go_simp; with_reducible rfl)) ?_; simp only [Act.put, List.setIfInBounds_toArray, List.set_cons_zero, List.set_cons_succ])
          | (refine sq_no rfl (by rfl) ?_; simp only [Act.put, List.setIfInBounds_toArray, List.set_cons_zero, List.set_cons_succ]))
        refine sq_do_yes rfl (by rfl) (fun K hK => ?_)
        go_wp2_with fail
        refine (dips_any a11 l11 c11 S2 a10 l10 c10 S2 _ (HS11.out.rd Dp.l_length).1 (HS10.out.rd Dp.l_length).1 hl11b hl64).mono ?_
        rintro e w12 ⟨rfl, hb12⟩
        rw [show decide (S2 = S2) = true from decide_eq_true rfl]
        replace HP := Lib.hid (HP.out.below hb12)
        replace HS10 := Lib.hid (HS10.out.below hb12)
        replace HC := Lib.hid (HC.out.below hb12 HC.out.lt)
        replace HB := Lib.hid (step_below HB.out hb12)
        clear HS11
        go_wp2_with fail
        refine ⟨Mod.of_below hb12, ?_⟩
        replace lbw := Nat.lt_of_lt_of_le lbw hb12.size
        replace cwr := (HB.out.cell (p := ⟨bw, ow + i, none⟩) CW.out.2).trans CW.out.1
        clear hb12
        repeat (first
          | (refine sq_yes rfl (by rfl) (fun w' hM => by ((try replace hM := hM.of_drew); obtain ⟨hR1, hR2, hR3⟩ := hM.rules; have hA := hM.agg; obtain ⟨hA1, hA2⟩ := hA; clear hM; go_simp; with_reducible rfl)) ?_; simp only [Act.put, List.setIfInBounds_toArray, List.set_cons_zero, List.set_cons_succ])
          | (refine sq_no rfl (by rfl) ?_; simp only [Act.put, List.setIfInBounds_toArray, List.set_cons_zero, List.set_cons_succ]))
        clear cwr lbw
        have hlm : (som x y).length ≤ 6 := by rw [som_len]; omega
        refine sq_do_yes rfl (by rfl) (fun K hK => ?_)
        go_wp2_with fail
        refine (last_any HP.out (by omega)).mono ?_
        rintro e w13 ⟨v13, rfl, hs13, hb13⟩
        obtain ⟨a13, c13, hv13⟩ := hs13.form
        obtain ⟨l13, hl13⟩ : ∃ l, l = (som x y).length := ⟨_, rfl⟩
        have hl13b : l13 ≤ 6 := by omega
        have hv13b : v13 = .slice a13 l13 c13 := by rw [hl13]; exact hv13
        clear hv13
        subst hv13b
        have HS13 := Lib.hid hs13
        replace HP := Lib.hid (HP.out.below hb13)
        replace HS10 := Lib.hid (HS10.out.below hb13)
        replace HC := Lib.hid (HC.out.below hb13 HC.out.lt)
        replace HB := Lib.hid (step_below HB.out hb13)
        clear hs13 hl13
        go_wp2_with fail
        refine ⟨Mod.of_below hb13, ?_⟩
        clear hb13
        repeat (first
          | (refine sq_yes rfl (by rfl) (fun w' hM => by ((try replace hM := hM.of_drew); obtain ⟨hR1, hR2, hR3⟩ := hM.rules; have hA := hM.agg; obtain ⟨hA1, hA2⟩ := hA; clear hM; go_simp; with_reducible rfl)) ?_; simp only [Act.put, List.setIfInBounds_toArray, List.set_cons_zero, List.set_cons_succ])
          | (refine sq_no rfl (by rfl) ?_; simp only [Act.put, List.setIfInBounds_toArray, List.set_cons_zero, List.set_cons_succ]))
        refine sq_do_yes rfl (by rfl) (fun K hK => ?_)
        go_wp2_with fail
        refine (some_any x y HXB.out _).mono ?_
        rintro e w14 ⟨v14, rfl, hs14, hb14⟩
        obtain ⟨a14, c14, hv14⟩ := hs14.form
        obtain ⟨l14, hl14⟩ : ∃ l, l = (som x y).length := ⟨_, rfl⟩
        have hl14b : l14 ≤ 6 := by omega
        have hv14b : v14 = .slice a14 l14 c14 := by rw [hl14]; exact hv14
        clear hv14
        subst hv14b
        have HS14 := Lib.hid hs14
        replace HP := Lib.hid (HP.out.below hb14)
        replace HS10 := Lib.hid (HS10.out.below hb14)
        replace HS13 := Lib.hid (HS13.out.below hb14)
        replace HC := Lib.hid (HC.out.below hb14 HC.out.lt)
        replace HB := Lib.hid (step_below HB.out hb14)
        clear hs14 hl14
        go_wp2_with fail
        refine ⟨Mod.of_below hb14, ?_⟩
        clear hb14
        repeat (first
          | (refine sq_yes rfl (by rfl) (fun w' hM => by ((try replace hM := hM.of_drew); obtain ⟨hR1, hR2, hR3⟩ := hM.rules; have hA := hM.agg; obtain ⟨hA1, hA2⟩ := hA; clear hM; go_simp; with_reducible rfl)) ?_; simp only [Act.put, List.setIfInBounds_toArray, List.set_cons_zero, List.set_cons_succ])
          | (refine sq_no rfl (by rfl) ?_; simp only [Act.put, List.setIfInBounds_toArray, List.set_cons_zero, List.set_cons_succ]))
        refine sq_do_yes rfl (by rfl) (fun K hK => ?_)
        go_wp2_with fail
        refine (members_any a13 l13 c13 (som x y) a14 l14 c14 (som x y) _ (HS13.out.rd Mb.len).1 (HS14.out.rd Mb.len).1 (by omega) (by omega) (fun z hz => wOk_of (som_w x y z hz)) (fun z hz => wOk_of (som_w x y z hz))).mono ?_
        rintro e w15 ⟨rfl, hb15⟩
        rw [show decide (som x y = som x y) = true from decide_eq_true rfl]
        replace HP := Lib.hid (HP.out.below hb15)
        replace HS10 := Lib.hid (HS10.out.below hb15)
        replace HC := Lib.hid (HC.out.below hb15 HC.out.lt)
        replace HB := Lib.hid (step_below HB.out hb15)
        clear HS13 HS14
        go_wp2_with fail
        refine ⟨Mod.of_below hb15, ?_⟩
        clear hb15
        repeat (first
          | (refine sq_yes rfl (by rfl) (fun w' hM => by ((try replace hM := hM.of_drew); obtain ⟨hR1, hR2, hR3⟩ := hM.rules; have hA := hM.agg; obtain ⟨hA1, hA2⟩ := hA; clear hM; go_simp; with_reducible rfl)) ?_; simp only [Act.put, List.setIfInBounds_toArray, List.set_cons_zero, List.set_cons_succ])
          | (refine sq_no rfl (by rfl) ?_; simp only [Act.put, List.setIfInBounds_toArray, List.set_cons_zero, List.set_cons_succ]))
        refine sq_end ?_
        clear hlm
        go_wp2_with fail
        go_roundw
        case rel => exact ⟨i + 1, vs2, lv8, sv8, som x y, S2, by go_num, by omega, HP.out, HH.out, HSL2.out, HS10.out, HC.out, HB.out⟩
        case measure => simp [intOf] <;> omega
      · have hltz : ¬ (i : Int) < (nw : Int) := by omega
        have hltd : decide (i < nw) = false := by simpa using hlt
        clear HH HS HC
        go_wp2_with fail
        refine (now_any HP.out).mono ?_
        rintro e w5 ⟨rfl, rfl⟩
        clear HP
        go_wp2_with fail
        refine (pawake_any _).mono ?_
        rintro e w6 ⟨rfl, hb⟩
        replace HB := Lib.hid (step_below HB.out hb)
        clear hb
        go_wp2_with fail
        go_ret
        exact ⟨rfl, HB.out⟩
end Go.Proofs.Ythfgccibiajneaa
