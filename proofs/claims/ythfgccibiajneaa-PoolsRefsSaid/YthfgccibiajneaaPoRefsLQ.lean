/-
  PoolsRefs: a version is live as long as somebody refers to it.
-/
import Derived.Test.YthfgccibiajneaaBas
namespace Go.Proofs.Ythfgccibiajneaa
open Go.RowKit Go.Shelf
theorem cok_roomy42 : cok ((roomy 4).setV 2) = true := by kernel_rfl
set_option maxRecDepth 100000 in
set_option maxHeartbeats 8000000 in
theorem prefs_any (n k : Int) (w : World) : Calls Try.prog 10 #[.int .i64 n, .int .i64 k] w fun e w' => e = .returned (.bool true) ∧ Below w.heap.size w w' := by
  by_cases hn : n < 0 ∨ 50 < n ∨ k < 0 ∨ 50 < k
  · have hc : decide (n < 0) = true ∨ (decide (n < 0) = false ∧ decide (50 < n) = true) ∨ (decide (n < 0) = false ∧ decide (50 < n) = false ∧ decide (k < 0) = true) ∨ (decide (n < 0) = false ∧ decide (50 < n) = false ∧ decide (k < 0) = false ∧ decide (50 < k) = true) := by
      simp only [decide_eq_true_eq, decide_eq_false_iff_not]
      omega
    clear hn
    rcases hc with h1 | ⟨h1, h2⟩ | ⟨h1, h2, h3⟩ | ⟨h1, h2, h3, h4⟩ <;>
    · go_enter Try.func10, Try.ntmps10
      go_wp2_with fail
      refine (pawake_any _).mono ?_
      rintro e w1 ⟨rfl, hb⟩
      have HB := Lib.hid hb
      clear hb
      go_wp2_with fail
      go_ret
      exact ⟨rfl, HB.out⟩
  · obtain ⟨m, rfl⟩ : ∃ m : Nat, n = m := ⟨n.toNat, by omega⟩
    obtain ⟨q, rfl⟩ : ∃ q : Nat, k = q := ⟨k.toNat, by omega⟩
    have hm2 : m ≤ 50 := by omega
    have hq2 : q ≤ 50 := by omega
    have h1 : decide ((m : Int) < 0) = false := by simp
    have h2 : decide ((50 : Int) < (m : Int)) = false := by simp; omega
    have h3 : decide ((q : Int) < 0) = false := by simp
    have h4 : decide ((50 : Int) < (q : Int)) = false := by simp; omega
    have hst := fun (w : World) (n : Nat) (Z : Array Value) (hn : n = w.heap.size) (hZ : Z.size = 48) => store_new (P := Try.prog) sizeC w n Z (cc (roomy 4)) hn hZ (cc_size _) (cc_one _)
    have KR := Lib.hid (fun w => roomy_below 4 w)
    have OK := Lib.hid cok_roomy42
    have hsl := Lib.hid (show ((roomy 4).setV 2).slots = ((32 : Nat) : Int) from rfl)
    have hve := Lib.hid (show ((roomy 4).setV 2).versions = ((2 : Nat) : Int) from rfl)
    generalize roomy 4 = c0 at *
    clear hn
    go_enter Try.func10, Try.ntmps10
    go_wp2_with fail
    refine (KR.out _).mono ?_
    rintro e w1 ⟨rfl, hb⟩
    have HB := Lib.hid hb
    clear hb
    go_upto_region 4 with fail
    obtain ⟨g, hg⟩ : ∃ g, g = w1.heap.size := ⟨_, rfl⟩
    rw [← hg]
    have HC := Lib.hid (at_new w1 27 (cc c0) g hg)
    have HG := Lib.hid (show w.heap.size ≤ g by rw [hg]; exact HB.out.size)
    replace HB := Lib.hid (HB.out.alloc HB.out.size (.cells (cc c0) 27))
    clear hg hst
    generalize w1.alloc (.cells (cc c0) 27) = W at *
    have hc2 := HC.out.set 6 (.int .i64 2)
    rw [cc_setV] at hc2
    have HC2 := Lib.hid hc2
    replace HB := Lib.hid (HB.out.setCell (p := ⟨g, 6, none⟩) HG.out (.int .i64 2))
    have c6 := HC.out.cell 6
    rw [cl_head _ 6 (by omega)] at c6
    simp only [Cf.head, List.getElem?_cons_succ, List.getElem?_cons_zero] at c6
    have f6 := HC.out.frozen 6
    have l6 := HC.out.lt
    clear HC hc2
    go_upto_region 5 with fail
    clear c6 f6 l6
    generalize W.setCell ⟨g, 6, none⟩ (.int .i64 2) = W2 at *
    generalize c0.setV 2 = c at *
    have r1 := HC2.out.row
    have o1 := HC2.out.open
    have l1 := HC2.out.lt
    refine region_sq (fun _ => False) [(0, true), (1, false), (2, false), (3, true), (4, true), (5, true), (6, true), (7, true)] (by kernel_rfl) (by kernel_rfl) (fun _ _ d _ _ h => by cases d <;> exact h) ?_
    repeat (first
      | (refine sq_yes rfl (by rfl) (fun w' hM => by ((try replace hM := hM.of_drew); obtain ⟨hR1, hR2, hR3⟩ := hM.rules; have hA := hM.agg; obtain ⟨hA1, hA2⟩ := hA; clear hM; go_simp; with_reducible rfl)) ?_; simp only [Act.put, List.setIfInBounds_toArray, List.set_cons_zero, List.set_cons_succ])
      | (refine sq_no rfl (by rfl) ?_; simp only [Act.put, List.setIfInBounds_toArray, List.set_cons_zero, List.set_cons_succ]))
    refine sq_do_yes rfl (by rfl) (fun K hK => ?_)
    go_wp2_with fail
    refine (some_any 2 3 (by omega) _).mono ?_
    rintro e w3 ⟨v3, rfl, hs3, hb3⟩
    have HS3 := Lib.hid hs3
    obtain ⟨a3, c3, hv3⟩ := hs3.form
    rw [som_len] at hv3
    simp only [show ((3 : Int) % 6).toNat = 3 from rfl] at hv3
    subst hv3
    replace HB := Lib.hid (step_below HB.out.drew hb3)
    clear hs3
    go_wp2_with fail
    refine ⟨Mod.of_below hb3, ?_⟩
    clear hb3 r1 o1 l1 HC2
    repeat (first
      | (refine sq_yes rfl (by rfl) (fun w' hM => by ((try replace hM := hM.of_drew); obtain ⟨hR1, hR2, hR3⟩ := hM.rules; have hA := hM.agg; obtain ⟨hA1, hA2⟩ := hA; clear hM; go_simp; with_reducible rfl)) ?_; simp only [Act.put, List.setIfInBounds_toArray, List.set_cons_zero, List.set_cons_succ])
      | (refine sq_no rfl (by rfl) ?_; simp only [Act.put, List.setIfInBounds_toArray, List.set_cons_zero, List.set_cons_succ]))
    refine sq_do_yes rfl (by rfl) (fun K hK => ?_)
    go_wp2_with fail
    refine (pnew_any c a3 3 c3 32 2 (som 2 3) _ (HS3.out.rd Mb.len).1 (som_ok _ _) OK.out hsl.out hve.out (by omega) (by omega) (by omega) (by omega)).mono ?_
    rintro e w4 ⟨p, t, lv, sv, rfl, hP, hb4⟩
    have HBB := Lib.hid HB.out.size
    replace HB := Lib.hid (step_below HB.out hb4)
    have HP := Lib.hid hP
    clear hP HS3
    go_wp2_with fail
    refine ⟨Mod.of_below hb4, ?_⟩
    clear hb4
    repeat (first
      | (refine sq_yes rfl (by rfl) (fun w' hM => by ((try replace hM := hM.of_drew); obtain ⟨hR1, hR2, hR3⟩ := hM.rules; have hA := hM.agg; obtain ⟨hA1, hA2⟩ := hA; clear hM; go_simp; with_reducible rfl)) ?_; simp only [Act.put, List.setIfInBounds_toArray, List.set_cons_zero, List.set_cons_succ])
      | (refine sq_no rfl (by rfl) ?_; simp only [Act.put, List.setIfInBounds_toArray, List.set_cons_zero, List.set_cons_succ]))
    refine sq_end ?_
    have HSL := Lib.hid (show (fillR [] (som 2 3) 32).length = 32 by
      unfold fillR
      rw [if_neg (by rw [som_len]; decide)]
      exact fillOf_len [] _ 32 (sharesOf_facts (som_ok _ _) (by rw [som_len]; decide)))
    rw [show (List.replicate 2 v0).set 0 ⟨sv, fillR [] (som 2 3) 32, 0, false⟩ = [⟨sv, fillR [] (som 2 3) 32, 0, false⟩, v0] from rfl] at HP
    generalize fillR [] (som 2 3) 32 = S0 at *
    generalize w3.heap.size = B at *
    go_wp2_with fail
    go_loopw [8] (fun s8 wx => ∃ i : Nat, s8 = .int .i64 (i : Nat) ∧ i ≤ m ∧ Po wx B p t c [⟨sv, S0, i, false⟩, v0] 0 lv (som 2 3) sv S0 ∧ Below w.heap.size w wx) (fun s8 _ => m - (intOf s8).toNat)
    case atStart => exact ⟨0, rfl, by omega, HP.out, HB.out⟩
    case round =>
      clear HP HB
      obtain ⟨i, rfl, hi, hP, hb⟩ := hrel
      have HP := Lib.hid hP
      have HB := Lib.hid hb
      clear hP hb
      by_cases hlt : i < m
      · have hltz : (i : Int) < (m : Int) := by omega
        go_wp2_with fail
        refine (ref_yes HP.out 0 ⟨sv, S0, i, false⟩ rfl rfl (show i < 1000000 by omega)).mono ?_
        rintro e w5 ⟨rfl, hP, hm⟩
        replace HB := Lib.hid (hm.bel HP.out HBB.out HB.out)
        rw [show ([⟨sv, S0, i, false⟩, v0] : List V).set 0 ⟨sv, S0, i + 1, false⟩ = [⟨sv, S0, i + 1, false⟩, v0] from rfl] at hP
        replace HP := Lib.hid hP
        clear hP hm
        go_wp2_with fail
        refine (refs_any HP.out 0 ⟨sv, S0, i + 1, false⟩ rfl rfl).mono ?_
        rintro e w6 ⟨rfl, rfl⟩
        rw [show (((i + 1 : Nat)) : Int) = (i : Int) + 1 by omega]
        have hz : ((i : Int) + 1 != (i : Int) + 1) = false := by simp
        go_wp2_with fail
        go_roundw
        case rel => exact ⟨i + 1, by go_num, by omega, HP.out, HB.out⟩
        case measure => simp [intOf]; omega
      · have hltz : ¬ (i : Int) < (m : Int) := by omega
        obtain rfl : i = m := by omega
        clear hlt hi
        go_wp2_with fail
        refine (some_any 4 2 (by omega) _).mono ?_
        rintro e w6 ⟨v6, rfl, hs6, hb6⟩
        have HS6 := Lib.hid hs6
        obtain ⟨a6, c6, hv6⟩ := hs6.form
        rw [som_len] at hv6
        simp only [show ((2 : Int) % 6).toNat = 2 from rfl] at hv6
        subst hv6
        replace HB := Lib.hid (step_below HB.out hb6)
        replace HP := Lib.hid (HP.out.below hb6)
        clear hs6 hb6
        go_wp2_with fail
        refine (reserve_at a6 2 c6 _ 32 1 (som 4 2) HP.out HS6.out (som_ok _ _) hsl.out (by omega) (by omega) (.inr HSL.out) (by simp) (fun j hj => by rw [show j = 0 by omega]; rfl) rfl).mono ?_
        rintro e w7 ⟨rfl, lv7, sv7, hP, hm⟩
        replace HB := Lib.hid (hm.bel HP.out HBB.out HB.out)
        clear HP
        have HSL1 := Lib.hid (fillR_len S0 (som 4 2) 32 (som_ok _ _))
        generalize fillR S0 (som 4 2) 32 = S1 at *
        rw [show ([⟨sv, S0, i, false⟩, v0] : List V).set 1 ⟨sv7, S1, 0, true⟩ = [⟨sv, S0, i, false⟩, ⟨sv7, S1, 0, true⟩] from rfl] at hP
        have HP := Lib.hid hP
        clear hP hm HS6
        go_wp2_with fail
        refine (serve_any HP.out 1 ⟨sv7, S1, 0, true⟩ rfl (by simp [liveB])).mono ?_
        rintro e w9 (⟨h, _⟩ | ⟨_, rfl, hP, hm⟩)
        · cases h
        rw [show ([⟨sv, S0, i, false⟩, ⟨sv7, S1, 0, true⟩] : List V).set 1 ⟨sv7, S1, 0, false⟩ = [⟨sv, S0, i, false⟩, ⟨sv7, S1, 0, false⟩] from rfl] at hP
        replace HB := Lib.hid (hm.bel HP.out HBB.out HB.out)
        replace HP := Lib.hid hP
        clear hP hm
        go_wp2_with fail
        go_loopw [11, 12] (fun s11 _ wx => ∃ j : Nat, s11 = .int .i64 (j : Nat) ∧ j ≤ q ∧ Po wx B p t c [⟨sv, S0, i - j, false⟩, ⟨sv7, S1, 0, false⟩] 1 lv7 (som 4 2) sv7 S1 ∧ Below w.heap.size w wx) (fun s11 _ _ => q - (intOf s11).toNat)
        case atStart => exact ⟨0, rfl, by omega, HP.out, HB.out⟩
        case round =>
          clear HP HB
          obtain ⟨j, rfl, hj, hP, hb⟩ := hrel
          have HP := Lib.hid hP
          have HB := Lib.hid hb
          clear hP hb
          by_cases hlt : j < q
          · have hltz2 : (j : Int) < (q : Int) := by omega
            by_cases hji : i ≤ j
            · have hjiz : (i : Int) ≤ (j : Int) := by omega
              rw [show i - j = 0 by omega] at HP
              go_wp2_with fail
              refine (unref_no HP.out 0 rfl).mono ?_
              rintro e w5 ⟨rfl, rfl⟩
              go_wp2_with fail
              go_roundw
              case rel => exact ⟨j + 1, by go_num, by omega, by rw [show i - (j + 1) = 0 by omega]; exact HP.out, HB.out⟩
              case measure => simp [intOf]; omega
            · have hjiz : ¬ (i : Int) ≤ (j : Int) := by omega
              go_wp2_with fail
              refine (unref_any HP.out 0 ⟨sv, S0, i - j, false⟩ rfl (by rw [show ((0 : Nat) : Int) = ((0 : Nat) : Int) from rfl, liveB_at (x := ⟨sv, S0, i - j, false⟩) rfl, decide_eq_true (show 0 < i - j by omega)]; simp) (show i - j < 1000000 by omega)).mono ?_
              rintro e w5 (⟨h, _⟩ | ⟨_, rfl, hP, hm⟩)
              · exact absurd (show i - j = 0 from h) (by omega)
              rw [show ([⟨sv, S0, i - j, false⟩, ⟨sv7, S1, 0, false⟩] : List V).set 0 ⟨sv, S0, i - j - 1, false⟩ = [⟨sv, S0, i - (j + 1), false⟩, ⟨sv7, S1, 0, false⟩] from rfl] at hP
              replace HB := Lib.hid (hm.bel HP.out HBB.out HB.out)
              replace HP := Lib.hid hP
              clear hP hm
              go_wp2_with fail
              go_roundw
              case rel => exact ⟨j + 1, by go_num, by omega, HP.out, HB.out⟩
              case measure => simp [intOf]; omega
          · have hltz2 : ¬ (j : Int) < (q : Int) := by omega
            obtain rfl : j = q := by omega
            clear hlt hj
            by_cases hl : j < i
            · obtain ⟨d, hd⟩ : ∃ d : Nat, i - j = d := ⟨_, rfl⟩
              have hd0 : 0 < d := by omega
              have hdz : (i : Int) - (j : Int) = (d : Int) := by omega
              have hdp : (0 : Int) < (d : Int) := by omega
              have hdp2 : (0 : Int) ≤ (d : Int) := by omega
              have hdn : decide ((0 : Int) < (d : Int)) = true := by simpa using hdp
              have hdd : ((d : Int) == (d : Int)) = true := by simp
              rw [hd] at HP
              clear hd
              have HL0 := Lib.hid (show liveB [⟨sv, S0, d, false⟩, ⟨sv7, S1, 0, false⟩] 1 ((0 : Nat) : Int) = true by rw [liveB_at (x := ⟨sv, S0, d, false⟩) rfl, decide_eq_true hd0]; simp)
              go_wp2_with fail
              refine (some_any 5 2 (by omega) _).mono ?_
              rintro e w10 ⟨v10, rfl, hs10, hb10⟩
              have HS10 := Lib.hid hs10
              obtain ⟨a10, c10, hv10⟩ := hs10.form
              rw [som_len] at hv10
              simp only [show ((2 : Int) % 6).toNat = 2 from rfl] at hv10
              subst hv10
              replace HB := Lib.hid (step_below HB.out hb10)
              replace HP := Lib.hid (HP.out.below hb10)
              clear hs10 hb10
              go_wp2_with fail
              refine (reserve_full a10 2 c10 _ 32 (som 5 2) HP.out HS10.out (som_ok _ _) hsl.out (by omega) (by omega) HSL1.out (fun z hz => by
                have : z = 0 ∨ z = 1 := by simp at hz; omega
                rcases this with rfl | rfl
                · exact HL0.out
                · rfl)).mono ?_
              rintro e w11 ⟨rfl, hb11⟩
              replace HB := Lib.hid (step_below HB.out hb11)
              replace HP := Lib.hid (HP.out.below hb11)
              clear hb11 HS10
              go_wp2_with fail
              refine (refs_any HP.out 0 ⟨sv, S0, d, false⟩ rfl HL0.out).mono ?_
              rintro e w12 ⟨rfl, rfl⟩
              go_wp2_with fail
              refine (slots_any HP.out 0 ⟨sv, S0, d, false⟩ rfl HL0.out (by show S0.length ≤ 64; rw [HSL.out]; decide)).mono ?_
              rintro e w13 ⟨v13, rfl, hs13, hb13⟩
              obtain ⟨a13, c13, hv13⟩ := hs13.form
              have hv13b : v13 = .slice a13 32 c13 := by rw [← HSL.out]; exact hv13
              clear hv13
              subst hv13b
              replace HB := Lib.hid (step_below HB.out hb13)
              clear hs13 hb13 HP HL0
              go_wp2_with fail
              refine (pawake_any _).mono ?_
              rintro e w14 ⟨rfl, hb⟩
              replace HB := Lib.hid (step_below HB.out hb)
              clear hb
              go_wp2_with fail
              go_ret
              exact ⟨rfl, HB.out⟩
            · by_cases hl2 : i < j
              · rw [show i - j = 0 by omega] at HP
                have hneg : ¬ (0 : Int) ≤ (i : Int) - (j : Int) := by omega
                clear hl hl2
                go_wp2_with fail
                refine (some_any 5 2 (by omega) _).mono ?_
                rintro e w10 ⟨v10, rfl, hs10, hb10⟩
                have HS10 := Lib.hid hs10
                obtain ⟨a10, c10, hv10⟩ := hs10.form
                rw [som_len] at hv10
                simp only [show ((2 : Int) % 6).toNat = 2 from rfl] at hv10
                subst hv10
                replace HB := Lib.hid (step_below HB.out hb10)
                replace HP := Lib.hid (HP.out.below hb10)
                clear hs10 hb10
                go_wp2_with fail
                refine (reserve_at a10 2 c10 _ 32 0 (som 5 2) HP.out HS10.out (som_ok _ _) hsl.out (by omega) (by omega) HSL1.out (by simp) (fun z hz => by omega) rfl).mono ?_
                rintro e w11 ⟨rfl, lv11, sv11, hP, hm⟩
                replace HB := Lib.hid (hm.bel HP.out HBB.out HB.out)
                generalize fillR S1 (som 5 2) 32 = S2 at *
                rw [show ([⟨sv, S0, 0, false⟩, ⟨sv7, S1, 0, false⟩] : List V).set 0 ⟨sv11, S2, 0, true⟩ = [⟨sv11, S2, 0, true⟩, ⟨sv7, S1, 0, false⟩] from rfl] at hP
                replace HP := Lib.hid hP
                clear hP hm HS10
                go_wp2_with fail
                refine (refs_any HP.out 0 ⟨sv11, S2, 0, true⟩ rfl (by simp [liveB])).mono ?_
                rintro e w12 ⟨rfl, rfl⟩
                go_wp2_with fail
                refine (lives_any HP.out (-1)).mono ?_
                rintro e w19 ⟨v19, rfl, ho, hb⟩
                rw [show (cutP (-1) (liveTo [⟨sv11, S2, 0, true⟩, ⟨sv7, S1, 0, false⟩] 1 ([⟨sv11, S2, 0, true⟩, ⟨sv7, S1, 0, false⟩] : List V).length)).map (fun p : Nat => (p : Int)) = [0, 1] from rfl] at ho
                obtain ⟨a19, n19, c19, rfl, hn19, hi19, _⟩ := ho.parts
                obtain rfl : n19 = 2 := hn19
                replace HB := Lib.hid (step_below HB.out hb)
                replace HP := Lib.hid (HP.out.below hb)
                have HI := Lib.hid hi19
                clear ho hi19 hb
                go_wp2_with fail
                obtain ⟨gz, hgz⟩ : ∃ g, g = w19.heap.size := ⟨_, rfl⟩
                rw [← hgz]
                have HZ := Lib.hid (at_new w19 3 #[.int .i64 0, .int .i64 1] gz hgz)
                replace HI := Lib.hid (HI.out.below ((Below.refl _ w19).alloc (Nat.le_refl _) (.cells #[.int .i64 0, .int .i64 1] 3)))
                replace HB := Lib.hid (HB.out.alloc HB.out.size (.cells #[.int .i64 0, .int .i64 1] 3))
                replace HP := Lib.hid (HP.out.alloc (.cells #[.int .i64 0, .int .i64 1] 3))
                clear hgz
                generalize w19.alloc (.cells #[.int .i64 0, .int .i64 1] 3) = W19 at *
                refine (ints_any a19 2 c19 [0, 1] (some ⟨gz, 0, none⟩) 2 2 [0, 1] _ HI.out (Ints.at (l := [0, 1]) HZ.out) (by omega) (by omega)).mono ?_
                rintro e w20 ⟨rfl, hb⟩
                replace HB := Lib.hid (step_below HB.out hb)
                replace HP := Lib.hid (HP.out.below hb)
                rw [show ((([0, 1] : List Int) == [0, 1]) : Bool) = true from rfl]
                clear hb HI HZ
                go_wp2_with fail
                refine (now_any HP.out).mono ?_
                rintro e w21 ⟨rfl, rfl⟩
                clear HP
                go_wp2_with fail
                refine (pawake_any _).mono ?_
                rintro e w14 ⟨rfl, hb⟩
                replace HB := Lib.hid (step_below HB.out hb)
                clear hb
                go_wp2_with fail
                go_ret
                exact ⟨rfl, HB.out⟩
              · rw [show i - j = 0 by omega] at HP
                obtain rfl : i = j := by omega
                have hzz : (i : Int) - (i : Int) = 0 := by omega
                clear hl hl2
                go_wp2_with fail
                refine (some_any 5 2 (by omega) _).mono ?_
                rintro e w10 ⟨v10, rfl, hs10, hb10⟩
                have HS10 := Lib.hid hs10
                obtain ⟨a10, c10, hv10⟩ := hs10.form
                rw [som_len] at hv10
                simp only [show ((2 : Int) % 6).toNat = 2 from rfl] at hv10
                subst hv10
                replace HB := Lib.hid (step_below HB.out hb10)
                replace HP := Lib.hid (HP.out.below hb10)
                clear hs10 hb10
                go_wp2_with fail
                refine (reserve_at a10 2 c10 _ 32 0 (som 5 2) HP.out HS10.out (som_ok _ _) hsl.out (by omega) (by omega) HSL1.out (by simp) (fun z hz => by omega) rfl).mono ?_
                rintro e w11 ⟨rfl, lv11, sv11, hP, hm⟩
                replace HB := Lib.hid (hm.bel HP.out HBB.out HB.out)
                generalize fillR S1 (som 5 2) 32 = S2 at *
                rw [show ([⟨sv, S0, 0, false⟩, ⟨sv7, S1, 0, false⟩] : List V).set 0 ⟨sv11, S2, 0, true⟩ = [⟨sv11, S2, 0, true⟩, ⟨sv7, S1, 0, false⟩] from rfl] at hP
                replace HP := Lib.hid hP
                clear hP hm HS10
                go_wp2_with fail
                refine (refs_any HP.out 0 ⟨sv11, S2, 0, true⟩ rfl (by simp [liveB])).mono ?_
                rintro e w12 ⟨rfl, rfl⟩
                go_wp2_with fail
                refine (lives_any HP.out (-1)).mono ?_
                rintro e w19 ⟨v19, rfl, ho, hb⟩
                rw [show (cutP (-1) (liveTo [⟨sv11, S2, 0, true⟩, ⟨sv7, S1, 0, false⟩] 1 ([⟨sv11, S2, 0, true⟩, ⟨sv7, S1, 0, false⟩] : List V).length)).map (fun p : Nat => (p : Int)) = [0, 1] from rfl] at ho
                obtain ⟨a19, n19, c19, rfl, hn19, hi19, _⟩ := ho.parts
                obtain rfl : n19 = 2 := hn19
                replace HB := Lib.hid (step_below HB.out hb)
                replace HP := Lib.hid (HP.out.below hb)
                have HI := Lib.hid hi19
                clear ho hi19 hb
                go_wp2_with fail
                obtain ⟨gz, hgz⟩ : ∃ g, g = w19.heap.size := ⟨_, rfl⟩
                rw [← hgz]
                have HZ := Lib.hid (at_new w19 3 #[.int .i64 0, .int .i64 1] gz hgz)
                replace HI := Lib.hid (HI.out.below ((Below.refl _ w19).alloc (Nat.le_refl _) (.cells #[.int .i64 0, .int .i64 1] 3)))
                replace HB := Lib.hid (HB.out.alloc HB.out.size (.cells #[.int .i64 0, .int .i64 1] 3))
                replace HP := Lib.hid (HP.out.alloc (.cells #[.int .i64 0, .int .i64 1] 3))
                clear hgz
                generalize w19.alloc (.cells #[.int .i64 0, .int .i64 1] 3) = W19 at *
                refine (ints_any a19 2 c19 [0, 1] (some ⟨gz, 0, none⟩) 2 2 [0, 1] _ HI.out (Ints.at (l := [0, 1]) HZ.out) (by omega) (by omega)).mono ?_
                rintro e w20 ⟨rfl, hb⟩
                replace HB := Lib.hid (step_below HB.out hb)
                replace HP := Lib.hid (HP.out.below hb)
                rw [show ((([0, 1] : List Int) == [0, 1]) : Bool) = true from rfl]
                clear hb HI HZ
                go_wp2_with fail
                refine (now_any HP.out).mono ?_
                rintro e w21 ⟨rfl, rfl⟩
                clear HP
                go_wp2_with fail
                refine (pawake_any _).mono ?_
                rintro e w14 ⟨rfl, hb⟩
                replace HB := Lib.hid (step_below HB.out hb)
                clear hb
                go_wp2_with fail
                go_ret
                exact ⟨rfl, HB.out⟩
end Go.Proofs.Ythfgccibiajneaa
