/-
  VipsPools: its walk.
-/
import Derived.Test.YthfgccibiajneaaPvPlQ
namespace Go.Proofs.Ythfgccibiajneaa
open Go.RowKit Go.Shelf
attribute [local go_sem ↓] exec_bldV3
set_option maxRecDepth 100000 in
theorem vpl_out (a x : Int) (ao : Option Addr) (no co : Nat) (w : World) (h : a < 2 ∨ 10 < a ∨ 10 < no) :
    Calls Try.prog 12 #[.int .i64 a, .int .i64 x, .slice ao no co] w fun e w' => e = .returned (.bool true) ∧ Below w.heap.size w w' := by
  have hc : (decide (a < 2) = true) ∨ (decide (a < 2) = false ∧ decide (10 < a) = true) ∨ (decide (a < 2) = false ∧ decide (10 < a) = false ∧ decide ((10 : Int) < (no : Int)) = true ∧ decide (10 < no) = true) := by
    simp only [decide_eq_true_eq, decide_eq_false_iff_not]; omega
  clear h
  rcases hc with h1 | ⟨h1, h2⟩ | ⟨h1, h2, h3, h4⟩
  all_goals
    go_enter Try.func12, Try.ntmps12
    go_wp2_with fail
    refine (vawake_any _).mono ?_
    rintro e w1 ⟨rfl, hb⟩
    have HB := Lib.hid hb
    clear hb
    go_wp2_with fail
    go_ret
    exact ⟨rfl, HB.out⟩
theorem Sl.mdM {w w' : World} {B B2 p t : Nat} {c : Cf} {vs : List V} {now : Nat} {lv sv v : Value} {L D : List Mb} {S : List Dp} (h : Po w B p t c vs now lv L sv S) (hm : Md p t w w') (hs : Sl 19 Mb.l 95 w B2 v D) : Sl 19 Mb.l 95 w' B2 v D := by
  obtain ⟨cs, hc⟩ := h.tAt
  refine hs.mod hm fun g hv hg => ?_
  rcases hg with rfl | rfl
  · exact hs.ne h.obj (by decide) hv
  · exact hs.ne hc (by decide) hv
set_option maxRecDepth 100000 in
set_option maxHeartbeats 8000000 in
theorem vpl_any (n : Nat) (at' : Int) (ao : Option Addr) (no co : Nat) (L : List Int) (w : World) (ho : Rd 1 ei w ao no L) (hn2 : 2 ≤ n) (hn : n ≤ 10) (hno : no ≤ 10) :
    Calls Try.prog 12 #[.int .i64 (n : Nat), .int .i64 at', .slice ao no co] w fun e w' => e = .returned (.bool true) ∧ Below w.heap.size w w' := by
  have h1 : decide ((n : Int) < 2) = false := by simp; omega
  have h1' : decide (n < 2) = false := by simp; omega
  have h2 : decide ((10 : Int) < (n : Int)) = false := by simp; omega
  have h2' : decide (10 < n) = false := by simp; omega
  have h3 : decide ((10 : Int) < (no : Int)) = false := by simp; omega
  have h4 : decide (10 < no) = false := by simp; omega
  have KR := Lib.hid (fun w => roomy_below 5 w)
  have KK := Lib.hid (fun w => key_any 1 false false w)
  have OK := Lib.hid (cok_roomyS 5)
  have hsl := Lib.hid (show (roomy 5).slots = ((32 : Nat) : Int) from rfl)
  have hve := Lib.hid (show (roomy 5).versions = ((16 : Nat) : Int) from rfl)
  rw [show akey 1 false false = k1 from rfl] at KK
  have HO := Lib.hid ho
  have HLL := Lib.hid (show L.length = no from ho.1)
  generalize roomy 5 = c at *
  clear ho
  go_enter Try.func12, Try.ntmps12
  go_wp2_with fail
  refine (KR.out _).mono ?_
  rintro e w1 ⟨rfl, hb⟩
  have HB := Lib.hid hb
  clear hb h1 h1' h2 h2' h3 h4
  go_wp2_with fail
  refine (xnew_any c _ OK.out).mono ?_
  rintro e w2 ⟨T, m, rfl, hX, hb⟩
  have HX := Lib.hid hX
  have HBASE := Lib.hid HB.out.size
  replace HB := Lib.hid (step_below HB.out hb)
  clear hX hb
  go_wp2_with fail
  refine (KK.out _).mono ?_
  rintro e w3 ⟨rfl, hb⟩
  replace HX := Lib.hid (HX.out.below hb)
  replace HB := Lib.hid (step_below HB.out hb)
  clear hb
  have hst := fun (w : World) (n : Nat) (Z : Array Value) (hn : n = w.heap.size) (hZ : Z.size = 37) => store_new (P := Try.prog) sizeK w n Z (kc k1) hn hZ (kc_size _) (kc_one _)
  go_upto_region 7 with fail
  obtain ⟨bk, hbk⟩ : ∃ g, g = w3.heap.size := ⟨_, rfl⟩
  rw [← hbk]
  have HK := Lib.hid (at_new w3 31 (kc k1) bk hbk)
  replace HX := Lib.hid (HX.out.alloc (.cells (kc k1) 31))
  replace HB := Lib.hid (HB.out.alloc HB.out.size (.cells (kc k1) 31))
  clear hbk hst
  generalize w3.alloc (.cells (kc k1) 31) = W4 at *
  go_wp2_with fail
  go_loopw [10, 11, 12] (fun s10 _ _ wx => ∃ (j : Nat) (X : Xs), s10 = .int .i64 (j : Nat) ∧ j ≤ n ∧ PX X j ∧ Vx wx w1.heap.size T m c X ∧ At wx bk 31 (kc k1) ∧ Below w.heap.size w wx) (fun s10 _ _ _ => n - (intOf s10).toNat)
  case atStart => exact ⟨0, _, rfl, Nat.zero_le _, PX.zero, HX.out, HK.out, HB.out⟩
  case round =>
    clear HX HK HB
    obtain ⟨j, X, rfl, hj, hN, hX, hK, hB⟩ := hrel
    have HN := Lib.hid hN
    have HX := Lib.hid hX
    have HK := Lib.hid hK
    have HB := Lib.hid hB
    clear hN hX hK hB
    by_cases hlt : j < n
    · have hltz : (j : Int) < (n : Int) := by omega
      have hwr : IntKind.u16.wrap (j : Int) = (j : Int) := by rw [IntKind.wrap_u16]; omega
      have r1 := HK.out.row
      have o1 := HK.out.open
      have l1 := HK.out.lt
      obtain ⟨n1, n2⟩ := HX.out.tAt HK.out (by decide)
      have hbv := build_vP j (by omega)
      have hmk := fun w => makeI j (by omega) w
      go_wp2_with fail
      refine region_sq (fun g => g = T ∨ g = m) [(0, true), (1, true), (2, true), (3, true), (4, true), (5, true), (6, true), (7, false), (8, false), (9, false), (10, true), (11, true), (12, true), (13, true), (14, true)] (by kernel_rfl) (by kernel_rfl) (fun _ _ d _ _ h => by cases d <;> exact h) ?_
      repeat (first
        | (refine sq_yes rfl (by rfl) (fun w' hM => by ((try replace hM := hM.of_drew); obtain ⟨hR1, hR2, hR3⟩ := hM.rules; have hA := hM.agg; obtain ⟨hA1, hA2⟩ := hA; clear hM; go_simp; with_reducible rfl)) ?_; simp only [Act.put, List.setIfInBounds_toArray, List.set_cons_zero, List.set_cons_succ])
        | (refine sq_no rfl (by rfl) ?_; simp only [Act.put, List.setIfInBounds_toArray, List.set_cons_zero, List.set_cons_succ]))
      clear hbv hwr
      refine sq_do_yes rfl (by rfl) (fun K hK => ?_)
      go_wp2_with fail
      refine ⟨(Mod.refl _ _).alloc _, ?_⟩
      obtain ⟨gz, hgz⟩ : ∃ g, g = wr.heap.size := ⟨_, rfl⟩
      rw [← hgz]
      have HZ := Lib.hid (show Rd 1 ei (wr.alloc (.cells ((List.replicate j (0 : Int)).flatMap ei).toArray 3)).drew (some ⟨gz, 0, none⟩) j (List.replicate j 0) by
        have h := (Sl.of (B := 0) (L := List.replicate j (0 : Int)) ei_len (at_new wr 3 ((List.replicate j (0 : Int)).flatMap ei).toArray gz hgz) (Nat.zero_le _) (by simp) (by rw [List.length_replicate]; unfold maxLen; omega)).rd ei_len
        have h := h.1
        rw [List.length_replicate] at h
        exact h)
      replace HK := Lib.hid (show At (wr.alloc (.cells ((List.replicate j (0 : Int)).flatMap ei).toArray 3)).drew bk 31 (kc k1) from HK.out.alloc _)
      replace HX := Lib.hid (HX.out.alloc (.cells ((List.replicate j (0 : Int)).flatMap ei).toArray 3)).drew
      replace HB := Lib.hid (HB.out.alloc HB.out.size (.cells ((List.replicate j (0 : Int)).flatMap ei).toArray 3)).drew
      clear hgz r1 o1 l1 hmk n1 n2
      generalize (wr.alloc (.cells ((List.replicate j (0 : Int)).flatMap ei).toArray 3)).drew = W5 at *
      refine sq_do_yes rfl (by rfl) (fun K hK => ?_)
      go_wp2_with fail
      refine (serversv_any false (some ⟨gz, 0, none⟩) j j (List.replicate j 0) _ HZ.out (by omega)).mono ?_
      rintro e w6 ⟨v6, rfl, hs6, hb⟩
      obtain ⟨a6, c6, hv6⟩ := hs6.form
      rw [srq_len, List.length_replicate] at hv6
      subst hv6
      have HS6 := Lib.hid hs6
      replace HK := Lib.hid (HK.out.below hb HK.out.lt)
      replace HX := Lib.hid (HX.out.below hb)
      replace HB := Lib.hid (step_below HB.out hb)
      clear hs6 HZ
      go_wp2_with fail
      refine ⟨Mod.of_below hb, ?_⟩
      clear hb
      refine sq_do_yes rfl (by rfl) (fun K hK => ?_)
      go_wp2_with fail
      refine (xadd_any HX.out (vP j) a6 j c6 32 16 (srq false (List.replicate j 0)) (HS6.out.rd Mb.len).1 OK.out hsl.out hve.out (by omega) (by omega) (by omega) (by omega)).mono ?_
      rintro e w7 (⟨h, _⟩ | ⟨_, ⟨i, d, h⟩, _⟩ | ⟨_, _, h, _⟩ | ⟨_, _, i, u, h1, h2, rfl, d, hd, _, _, h5, h6⟩)
      · rw [vP_ok c j _ (by rw [List.length_replicate]; omega)] at h; cases h
      · exact absurd h (HN.out.not (Nat.le_refl _) (by omega) i d)
      · have := HN.out.full h; omega
      obtain rfl := HN.out.free h1 h2
      have hi16 := HN.out.lt h1
      have HN2 := Lib.hid (HN.out.add hi16 hd)
      replace HB := Lib.hid (HX.out.bel h6 HBASE.out HB.out)
      replace HK := Lib.hid (HK.out.mod h6 (by have := HX.out.tAt HK.out (by decide); simp [this]))
      replace HX := Lib.hid h5
      have HM6 := Lib.hid h6
      clear h1 h2 h5 h6 hi16 HN hd HS6
      go_wp2_with fail
      refine ⟨HM6.out, ?_⟩
      repeat (first
        | (refine sq_yes rfl (by rfl) (fun w' hM => by ((try replace hM := hM.of_drew); obtain ⟨hR1, hR2, hR3⟩ := hM.rules; have hA := hM.agg; obtain ⟨hA1, hA2⟩ := hA; clear hM; go_simp; with_reducible rfl)) ?_; simp only [Act.put, List.setIfInBounds_toArray, List.set_cons_zero, List.set_cons_succ])
        | (refine sq_no rfl (by rfl) ?_; simp only [Act.put, List.setIfInBounds_toArray, List.set_cons_zero, List.set_cons_succ]))
      refine sq_end ?_
      go_wp2_with fail
      go_roundw
      case rel => exact ⟨i + 1, _, by simp, by omega, HN2.out, HX.out, HK.out, HB.out⟩
      case measure => simp [intOf] <;> omega
    · have hltz : ¬ (j : Int) < (n : Int) := by omega
      obtain rfl : j = n := by omega
      clear hlt HK
      go_wp2_with fail
      refine (round_big at' (j : Int) (by omega) (by omega) _).mono ?_
      rintro e w5 ⟨rfl, rfl⟩
      obtain ⟨o, ho'⟩ : ∃ o : Nat, at' % (j : Int) = (o : Int) := ⟨(at' % (j : Int)).toNat, by rw [Int.toNat_of_nonneg (Int.emod_nonneg _ (by omega))]⟩
      have hoq : o < j := by have := Int.emod_lt_of_pos at' (show (0 : Int) < (j : Int) by omega); omega
      rw [ho']
      clear ho' hltz
      obtain ⟨d, hd0, hdn⟩ := (HN.out.2 o (by omega)).1 hoq
      have HD := Lib.hid hd0
      have HDN := Lib.hid hdn
      clear hd0 hdn
      go_wp2_with fail
      refine (xpools_yes HX.out o (vP o) d HD.out).mono ?_
      rintro e w6 ⟨rfl, rfl⟩
      go_wp2_with fail
      refine (serversv_any false ao no co L _ (HO.out.below HB.out) (by omega)).mono ?_
      rintro e w7 ⟨v7, rfl, hs7, hb⟩
      obtain ⟨a7, c7, hv7⟩ := hs7.form
      rw [srq_len, HLL.out] at hv7
      subst hv7
      have HS7 := Lib.hid hs7
      replace HX := Lib.hid (HX.out.below hb)
      replace HB := Lib.hid (step_below HB.out hb)
      clear hs7 hb
      go_wp2_with fail
      obtain ⟨dp, dt, dvs, dnow, dlv, dL, dsv, dS, dB⟩ := d
      obtain ⟨e1, e2, e3, e4⟩ := HDN.out
      simp only at e1 e2 e3 e4
      have HP := Lib.hid (HX.out.pool o _ _ HD.out)
      rw [e1, e2, e3, e4] at HP HD
      clear HDN e1 e2 e3 e4
      have HSL0 := Lib.hid (fillR_len [] (srq false (List.replicate o 0)) 32 (srq_ok false _ (by rw [List.length_replicate]; omega)))
      generalize fillR [] (srq false (List.replicate o 0)) 32 = S0 at *
      obtain ⟨D0, hD0⟩ : ∃ D : Pd, D = ⟨dp, dt, (List.replicate 16 v0).set 0 ⟨dsv, S0, 0, false⟩, 0, dlv, srq false (List.replicate o 0), dsv, S0, dB⟩ := ⟨_, rfl⟩
      have HD0 := Lib.hid hD0
      rw [← hD0] at HD
      clear hD0
      have HP := Lib.hid (show Po w7 dB dp dt c ((List.replicate 16 v0).set 0 ⟨dsv, S0, 0, false⟩) 0 dlv (srq false (List.replicate o 0)) dsv S0 from HP.out)
      refine (reserve_at a7 no c7 _ 32 1 (srq false L) HP.out HS7.out (srq_ok false L (by have := HLL.out; omega)) hsl.out (by omega) (by omega) HSL0.out (by simp) (fun i hi => by rw [show i = 0 by omega]; rfl) rfl).mono ?_
      rintro e w8 ⟨rfl, lv8, sv8, hP8, hm⟩
      have hm' : Md D0.p D0.t w7 w8 := by rw [HD0.out]; exact hm
      generalize fillR S0 (srq false L) 32 = S1 at *
      have HX8 := Lib.hid (HX.out.act (d' := ⟨dp, dt, ((List.replicate 16 v0).set 0 ⟨dsv, S0, 0, false⟩).set 1 ⟨sv8, S1, 0, true⟩, 0, lv8, srq false L, sv8, S1, dB⟩) HD.out (by rw [HD0.out]) (by rw [HD0.out]) (by rw [HD0.out]) hP8 hm')
      replace HB := Lib.hid (HX.out.belP HD.out hm' HBASE.out HB.out)
      replace HS7 := Lib.hid (Sl.mdM HP.out hm HS7.out)
      have HP8 := Lib.hid hP8
      have HD8 := Lib.hid (show (X.set o (vP o, some ⟨dp, dt, ((List.replicate 16 v0).set 0 ⟨dsv, S0, 0, false⟩).set 1 ⟨sv8, S1, 0, true⟩, 0, lv8, srq false L, sv8, S1, dB⟩))[o]? = some (vP o, some ⟨dp, dt, ((List.replicate 16 v0).set 0 ⟨dsv, S0, 0, false⟩).set 1 ⟨sv8, S1, 0, true⟩, 0, lv8, srq false L, sv8, S1, dB⟩) by
        rw [List.getElem?_set, if_pos rfl, if_pos (by rw [HN.out.1]; omega)])
      clear hP8 hm hm' HX HP
      go_wp2_with fail
      refine (serve_any HP8.out 1 ⟨sv8, S1, 0, true⟩ (by simp) rfl).mono ?_
      rintro e w9 (⟨h, _⟩ | ⟨_, rfl, hP9, hm⟩)
      · cases h
      have HX9 := Lib.hid (HX8.out.act (d' := ⟨dp, dt, (((List.replicate 16 v0).set 0 ⟨dsv, S0, 0, false⟩).set 1 ⟨sv8, S1, 0, true⟩).set 1 ⟨sv8, S1, 0, false⟩, 1, lv8, srq false L, sv8, S1, dB⟩) HD8.out rfl rfl rfl hP9 hm)
      rw [List.set_set] at HX9
      replace HB := Lib.hid (HX8.out.belP HD8.out hm HBASE.out HB.out)
      replace HS7 := Lib.hid (Sl.mdM HP8.out hm HS7.out)
      obtain ⟨D9, hD9⟩ : ∃ D : Pd, D = ⟨dp, dt, (((List.replicate 16 v0).set 0 ⟨dsv, S0, 0, false⟩).set 1 ⟨sv8, S1, 0, true⟩).set 1 ⟨sv8, S1, 0, false⟩, 1, lv8, srq false L, sv8, S1, dB⟩ := ⟨_, rfl⟩
      rw [← hD9] at HX9
      have HD9 := Lib.hid (show D9.now = 1 ∧ D9.L = srq false L by rw [hD9]; exact ⟨rfl, rfl⟩)
      have HNX := Lib.hid (show ∀ i : Nat, i < j → ∃ d : Pd, (X.set o (vP o, some D9))[i]? = some (vP i, some d) ∧ ((i = o ∧ d = D9) ∨ (i ≠ o ∧ d.isNew (srq false (List.replicate i 0)) 32 16)) from fun i hi => by
        rw [List.getElem?_set]
        by_cases hio : o = i
        · subst hio
          rw [if_pos rfl, if_pos (by rw [HN.out.1]; omega)]
          exact ⟨D9, rfl, .inl ⟨rfl, rfl⟩⟩
        · rw [if_neg hio]
          obtain ⟨d, h1, h2⟩ := (HN.out.2 i (by omega)).1 hi
          exact ⟨d, h1, .inr ⟨fun e => hio e.symm, h2⟩⟩)
      have HXO := Lib.hid (show (X.set o (vP o, some D9)).set o (vz, none) = X.set o (vz, none) by rw [List.set_set])
      have HX := HX9
      clear hP9 hm HX8 HX9 HP8 HD8 hD9 HD HD0
      generalize hY : X.set o (vP o, some D9) = Y at *
      clear hY
      go_wp2_with fail
      go_loopw [19, 20] (fun s19 _ wx => ∃ i : Nat, s19 = .int .i64 (i : Nat) ∧ i ≤ j ∧ Vx wx w1.heap.size T m c Y ∧ Sl 19 Mb.l 95 wx w6.heap.size (.slice a7 no c7) (srq false L) ∧ Below w.heap.size w wx) (fun s19 _ _ => j - (intOf s19).toNat)
      case atStart => exact ⟨0, rfl, Nat.zero_le _, HX.out, HS7.out, HB.out⟩
      case round =>
        clear HX HB HS7
        obtain ⟨i, rfl, hi, hX, hS, hB⟩ := hrel
        have HX := Lib.hid hX
        have HS := Lib.hid hS
        have HB := Lib.hid hB
        clear hX hS hB
        by_cases hlt : i < j
        · have hltz : (i : Int) < (j : Int) := by omega
          obtain ⟨d, hd, hdc⟩ := HNX.out i hlt
          have HDI := Lib.hid hd
          have HDP := Lib.hid (HX.out.pool i _ _ hd)
          clear hd
          go_wp2_with fail
          refine (xpools_yes HX.out i (vP i) d HDI.out).mono ?_
          rintro e w10 ⟨rfl, rfl⟩
          rcases hdc with ⟨hio, hd9⟩ | ⟨hio, hdn⟩
          · have hz : ((i : Int) == (o : Int)) = true := by rw [beq_iff_eq]; omega
            have hz2 : (i == o) = true := by rw [beq_iff_eq]; omega
            have HLL2 := Lib.hid (show d.L = srq false L by rw [hd9]; exact HD9.out.2)
            have HNW := Lib.hid (show d.now = 1 by rw [hd9]; exact HD9.out.1)
            clear hio hd9
            go_wp2_with fail
            refine (now_any HDP.out).mono ?_
            rintro e w11 ⟨rfl, rfl⟩
            rw [HNW.out]
            go_wp2_with fail
            refine (last_any HDP.out (by rw [HLL2.out, srq_len, HLL.out]; omega)).mono ?_
            rintro e w12 ⟨v12, rfl, hs12, hb⟩
            rw [HLL2.out] at hs12
            obtain ⟨a12, c12, hv12⟩ := hs12.form
            rw [srq_len, HLL.out] at hv12
            subst hv12
            have HS12 := Lib.hid hs12
            replace HX := Lib.hid (HX.out.below hb)
            replace HS := Lib.hid (HS.out.below hb)
            replace HB := Lib.hid (step_below HB.out hb)
            clear hs12 hb HDP
            go_wp2_with fail
            refine (members_any a12 no c12 (srq false L) a7 no c7 (srq false L) _ (HS12.out.rd Mb.len).1 (HS.out.rd Mb.len).1 (by omega) (by omega) (srq_w _ _) (srq_w _ _)).mono ?_
            rintro e w13 ⟨rfl, hb⟩
            rw [decide_eq_true rfl]
            replace HX := Lib.hid (HX.out.below hb)
            replace HS := Lib.hid (HS.out.below hb)
            replace HB := Lib.hid (step_below HB.out hb)
            clear hb HS12
            go_wp2_with fail
            go_roundw
            case rel => exact ⟨i + 1, by simp, by omega, HX.out, HS.out, HB.out⟩
            case measure => simp [intOf] <;> omega
          · have hz : ((i : Int) == (o : Int)) = false := by simp; omega
            have hz2 : (i == o) = false := by simp; omega
            have HLL2 := Lib.hid (show d.L.length = i by rw [hdn.2.2.1, srq_len, List.length_replicate])
            have HNW := Lib.hid (show d.now = 0 from hdn.2.1)
            clear hio hdn
            go_wp2_with fail
            refine (now_any HDP.out).mono ?_
            rintro e w11 ⟨rfl, rfl⟩
            rw [HNW.out]
            go_wp2_with fail
            refine (last_any HDP.out (by rw [HLL2.out]; omega)).mono ?_
            rintro e w12 ⟨v12, rfl, hs12, hb⟩
            obtain ⟨a12, c12, hv12⟩ := hs12.form
            rw [HLL2.out] at hv12
            subst hv12
            replace HX := Lib.hid (HX.out.below hb)
            replace HS := Lib.hid (HS.out.below hb)
            replace HB := Lib.hid (step_below HB.out hb)
            clear hs12 hb HDP
            go_wp2_with fail
            go_roundw
            case rel => exact ⟨i + 1, by simp, by omega, HX.out, HS.out, HB.out⟩
            case measure => simp [intOf] <;> omega
        · have hltz : ¬ (i : Int) < (j : Int) := by omega
          clear hlt HS
          obtain ⟨d, hd, _⟩ := HNX.out o hoq
          have HDO := Lib.hid hd
          clear hd
          go_wp2_with fail
          refine (xvip_yes HX.out o (vP o) d HDO.out).mono ?_
          rintro e w10 ⟨rfl, hb⟩
          replace HX := Lib.hid (HX.out.below hb)
          replace HB := Lib.hid (step_below HB.out hb)
          clear hb
          have hst := fun (w : World) (n : Nat) (Z : Array Value) (hn : n = w.heap.size) (hZ : Z.size = 19) => store_new (P := Try.prog) sizeVp w n Z (vpc (vP o)) hn hZ (vpc_size _) (vp_one _)
          go_upto_region 34 with fail
          obtain ⟨bv, hbv⟩ : ∃ g, g = w10.heap.size := ⟨_, rfl⟩
          rw [← hbv]
          have HV := Lib.hid (at_new w10 86 (vpc (vP o)) bv hbv)
          replace HX := Lib.hid (HX.out.alloc (.cells (vpc (vP o)) 86))
          replace HB := Lib.hid (HB.out.alloc HB.out.size (.cells (vpc (vP o)) 86))
          clear hbv hst
          generalize w10.alloc (.cells (vpc (vP o)) 86) = W11 at *
          go_wp2_with fail
          refine (xrem_yes HX.out o (vP o) d HDO.out).mono ?_
          rintro e w12 ⟨rfl, hX, hm⟩
          replace HB := Lib.hid (HX.out.bel hm HBASE.out HB.out)
          replace HV := Lib.hid (HV.out.mod hm (by have := HX.out.tAt HV.out (by decide); simp [this]))
          rw [HXO.out] at hX
          replace HX := Lib.hid hX
          clear hX hm HDO HNX HXO
          obtain ⟨ha, hao⟩ := HV.out.agg 0 19 (by rw [vpc_size]; omega)
          rw [show 0 + 19 = 19 from rfl, vpc_all] at ha
          have l1 := HV.out.lt
          go_wp2_with fail
          refine (xadd_any HX.out (vP o) none 0 0 32 16 [] (Rd.zero _ _ _ _) OK.out hsl.out hve.out (by omega) (by omega) (by omega) (by omega)).mono ?_
          rintro e w13 (⟨h, _⟩ | ⟨_, ⟨i2, d2, h⟩, _⟩ | ⟨_, _, h, _⟩ | ⟨_, _, i2, u, g1, g2, rfl, d2, hd2, _, _, g5, g6⟩)
          · rw [vP_ok0] at h; cases h
          · rw [List.getElem?_set] at h
            split at h
            · split at h <;> simp at h
            · obtain ⟨g1, g2⟩ := HN.out.some h
              have := vP_inj (by omega) (by omega) g2
              omega
          · have := h (vz, none) (List.mem_of_getElem? (i := o) (by rw [List.getElem?_set, if_pos rfl, if_pos (by rw [HN.out.1]; omega)]))
            cases this
          have hio : i2 = o := by
            rcases Nat.lt_trichotomy i2 o with g3 | g3 | g3
            · rw [List.getElem?_set, if_neg (by omega)] at g1
              obtain ⟨e, he, _⟩ := (HN.out.2 i2 (by omega)).1 (by omega)
              rw [g1] at he; simp at he
            · exact g3
            · have := g2 (vz, none) (List.mem_of_getElem? (i := o) (by rw [List.getElem?_take, if_pos g3, List.getElem?_set, if_pos rfl, if_pos (by rw [HN.out.1]; omega)]))
              cases this
          subst hio
          have HD2 := Lib.hid (show ((X.set i2 (vz, none)).set i2 (vP i2, some d2))[i2]? = some (vP i2, some d2) by rw [List.getElem?_set, if_pos rfl, if_pos (by rw [List.length_set, HN.out.1]; omega)])
          replace HB := Lib.hid (HX.out.bel g6 HBASE.out HB.out)
          replace HX := Lib.hid g5
          have HDN2 := Lib.hid hd2
          clear g1 g2 g5 g6 hd2 ha hao l1 HV
          generalize (X.set i2 (vz, none)).set i2 (vP i2, some d2) = Z at *
          go_wp2_with fail
          refine (xpools_yes HX.out i2 (vP i2) d2 HD2.out).mono ?_
          rintro e w14 ⟨rfl, rfl⟩
          have HDP := Lib.hid (HX.out.pool i2 _ _ HD2.out)
          go_wp2_with fail
          refine (now_any HDP.out).mono ?_
          rintro e w15 ⟨rfl, rfl⟩
          rw [HDN2.out.2.1]
          go_wp2_with fail
          refine (last_any HDP.out (by rw [HDN2.out.2.2.1]; simp)).mono ?_
          rintro e w16 ⟨v16, rfl, hs16, hb⟩
          obtain ⟨a16, c16, hv16⟩ := hs16.form
          rw [HDN2.out.2.2.1] at hv16
          simp only [List.length_nil] at hv16
          subst hv16
          replace HB := Lib.hid (step_below HB.out hb)
          clear hs16 hb
          go_wp2_with fail
          refine (vawake_any _).mono ?_
          rintro e w17 ⟨rfl, hb⟩
          replace HB := Lib.hid (step_below HB.out hb)
          clear hb
          go_wp2_with fail
          go_ret
          exact ⟨rfl, HB.out⟩
end Go.Proofs.Ythfgccibiajneaa
