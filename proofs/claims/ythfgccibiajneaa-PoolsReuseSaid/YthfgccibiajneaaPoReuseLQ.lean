/-
  PoolsReuse: a version is made anew only where nobody refers to it.
-/
import Derived.Test.YthfgccibiajneaaBas
import Derived.Test.YthfgccibiajneaaPoReusePQ
namespace Go.Proofs.Ythfgccibiajneaa
open Go.RowKit Go.Shelf
abbrev eb (b : Bool) : List Value := [.bool b]
set_option maxRecDepth 100000 in
set_option maxHeartbeats 8000000 in
theorem preuse_any (al ah aw : Option Addr) (nl cl nh ch nw cw : Nat) (l ws : List Int) (bs : List Bool) (w : World) (hl : Ints w al nl l) (hh : Rd 1 eb w ah nh bs) (hw : Ints w aw nw ws) (hwf : ∀ x ∈ ws, -9223372036854775808 ≤ x ∧ x ≤ 9223372036854775807) :
    Calls Try.prog 4 #[.slice al nl cl, .slice ah nh ch, .slice aw nw cw] w fun e w' => e = .returned (.bool true) ∧ Below w.heap.size w w' := by
  by_cases hn : 30 < nl ∨ 40 < nh ∨ nw < nh ∨ 60 < nw
  · have hc : (30 < nl) ∨ (¬ 30 < nl ∧ 40 < nh) ∨ (¬ 30 < nl ∧ ¬ 40 < nh ∧ nw < nh) ∨ (¬ 30 < nl ∧ ¬ 40 < nh ∧ ¬ nw < nh ∧ 60 < nw) := by omega
    clear hn hl hh hw hwf
    rcases hc with h1 | ⟨h1, h2⟩ | ⟨h1, h2, h3⟩ | ⟨h1, h2, h3, h4⟩
    · have d0 : decide ((30 : Int) < (nl : Int)) = true := by simp; omega
      have e0 : decide (30 < nl) = true := by simp; omega
      go_enter Try.func4, Try.ntmps4
      go_wp2_with fail
      refine (pawake_any _).mono ?_
      rintro e w1 ⟨rfl, hb⟩
      have HB := Lib.hid hb
      clear hb
      go_wp2_with fail
      go_ret
      exact ⟨rfl, HB.out⟩
    · have d0 : decide ((30 : Int) < (nl : Int)) = false := by simp; omega
      have e0 : decide (30 < nl) = false := by simp; omega
      have d1 : decide ((40 : Int) < (nh : Int)) = true := by simp; omega
      have e1 : decide (40 < nh) = true := by simp; omega
      go_enter Try.func4, Try.ntmps4
      go_wp2_with fail
      refine (pawake_any _).mono ?_
      rintro e w1 ⟨rfl, hb⟩
      have HB := Lib.hid hb
      clear hb
      go_wp2_with fail
      go_ret
      exact ⟨rfl, HB.out⟩
    · have d0 : decide ((30 : Int) < (nl : Int)) = false := by simp; omega
      have e0 : decide (30 < nl) = false := by simp; omega
      have d1 : decide ((40 : Int) < (nh : Int)) = false := by simp; omega
      have e1 : decide (40 < nh) = false := by simp; omega
      have d2 : decide ((nw : Int) < (nh : Int)) = true := by simp; omega
      have e2 : decide (nw < nh) = true := by simp; omega
      go_enter Try.func4, Try.ntmps4
      go_wp2_with fail
      refine (pawake_any _).mono ?_
      rintro e w1 ⟨rfl, hb⟩
      have HB := Lib.hid hb
      clear hb
      go_wp2_with fail
      go_ret
      exact ⟨rfl, HB.out⟩
    · have d0 : decide ((30 : Int) < (nl : Int)) = false := by simp; omega
      have e0 : decide (30 < nl) = false := by simp; omega
      have d1 : decide ((40 : Int) < (nh : Int)) = false := by simp; omega
      have e1 : decide (40 < nh) = false := by simp; omega
      have d2 : decide ((nw : Int) < (nh : Int)) = false := by simp; omega
      have e2 : decide (nw < nh) = false := by simp; omega
      have d3 : decide ((60 : Int) < (nw : Int)) = true := by simp; omega
      have e3 : decide (60 < nw) = true := by simp; omega
      go_enter Try.func4, Try.ntmps4
      go_wp2_with fail
      refine (pawake_any _).mono ?_
      rintro e w1 ⟨rfl, hb⟩
      have HB := Lib.hid hb
      clear hb
      go_wp2_with fail
      go_ret
      exact ⟨rfl, HB.out⟩
  · have hl30 : nl ≤ 30 := by omega
    have hh40 : nh ≤ 40 := by omega
    have hwh : nh ≤ nw := by omega
    have hw60 : nw ≤ 60 := by omega
    have d0 : decide ((30 : Int) < (nl : Int)) = false := by simp; omega
    have e0 : decide (30 < nl) = false := by simp; omega
    have d1 : decide ((40 : Int) < (nh : Int)) = false := by simp; omega
    have e1 : decide (40 < nh) = false := by simp; omega
    have d2 : decide ((nw : Int) < (nh : Int)) = false := by simp; omega
    have e2 : decide (nw < nh) = false := by simp; omega
    have d3 : decide ((60 : Int) < (nw : Int)) = false := by simp; omega
    have e3 : decide (60 < nw) = false := by simp; omega
    have HL := Lib.hid hl
    have HH := Lib.hid hh
    have HW := Lib.hid hw
    have HWF := Lib.hid hwf
    have CK := Lib.hid (cok_config l)
    obtain ⟨n, hsl, hn1, hn2⟩ : ∃ n : Nat, (config l).slots = (n : Int) ∧ 1 ≤ n ∧ n ≤ 64 := ⟨(1 + (atOf l 5 16).toNat), by simp [config, cfgOf], by omega, by have := atOf_bounds l 5 16 (by omega); omega⟩
    obtain ⟨N, hve, hN1, hN2⟩ : ∃ N : Nat, (config l).versions = (N : Int) ∧ 1 ≤ N ∧ N ≤ 64 := ⟨(2 + (atOf l 6 5).toNat), by simp [config, cfgOf], by omega, by have := atOf_bounds l 6 5 (by omega); omega⟩
    have HCS := Lib.hid hsl
    have HCV := Lib.hid hve
    have KC := Lib.hid (fun w h => config_any al nl cl l w h (by omega))
    obtain ⟨c, hc⟩ : ∃ c, c = config l := ⟨_, rfl⟩
    rw [← hc] at CK HCS HCV KC
    have hst := fun (w : World) (n : Nat) (Z : Array Value) (hn : n = w.heap.size) (hZ : Z.size = 48) => store_new (P := Try.prog) sizeC w n Z (cc c) hn hZ (cc_size _) (cc_one _)
    clear hn hl hh hw hwf hsl hve hc
    go_enter Try.func4, Try.ntmps4
    go_wp2_with fail
    refine (KC.out _ HL.out).mono ?_
    rintro e w1 ⟨rfl, hb⟩
    have HB := Lib.hid hb
    clear hb d0 d1 d2 d3 e0 e1 e2 e3
    go_upto_region 4 with fail
    obtain ⟨g, hg⟩ : ∃ g, g = w1.heap.size := ⟨_, rfl⟩
    rw [← hg]
    have HC := Lib.hid (at_new w1 27 (cc c) g hg)
    have HG := Lib.hid (show w.heap.size ≤ g by rw [hg]; exact HB.out.size)
    replace HB := Lib.hid (HB.out.alloc HB.out.size (.cells (cc c) 27))
    clear hg hst KC HL
    generalize w1.alloc (.cells (cc c) 27) = W at *
    have r1 := HC.out.row
    have o1 := HC.out.open
    have l1 := HC.out.lt
    refine region_sq (fun _ => False) [(0, true), (1, false), (2, false), (3, true), (4, true), (5, true), (6, true), (7, true)] (by kernel_rfl) (by kernel_rfl) (fun _ _ d _ _ h => by cases d <;> exact h) ?_
    repeat (first
      | (refine sq_yes rfl (by rfl) (fun w' hM => by ((try replace hM := hM.of_drew); obtain ⟨hR1, hR2, hR3⟩ := hM.rules; have hA := hM.agg; obtain ⟨hA1, hA2⟩ := hA; clear hM; go_simp; with_reducible rfl)) ?_; simp only [Act.put, List.setIfInBounds_toArray, List.set_cons_zero, List.set_cons_succ])
      | (refine sq_no rfl (by rfl) ?_; simp only [Act.put, List.setIfInBounds_toArray, List.set_cons_zero, List.set_cons_succ]))
    refine sq_do_yes rfl (by rfl) (fun K hK => ?_)
    go_wp2_with fail
    refine (some_any 0 3 (by omega) _).mono ?_
    rintro e w3 ⟨v3, rfl, hs3, hb3⟩
    have HS3 := Lib.hid hs3
    obtain ⟨a3, c3, hv3⟩ := hs3.form
    rw [som_len] at hv3
    simp only [show ((3 : Int) % 6).toNat = 3 from rfl] at hv3
    subst hv3
    replace HB := Lib.hid (step_below HB.out.drew hb3)
    replace HC := Lib.hid (HC.out.drew.below hb3 HC.out.lt)
    clear hs3
    go_wp2_with fail
    refine ⟨Mod.of_below hb3, ?_⟩
    clear hb3 r1 o1 l1
    repeat (first
      | (refine sq_yes rfl (by rfl) (fun w' hM => by ((try replace hM := hM.of_drew); obtain ⟨hR1, hR2, hR3⟩ := hM.rules; have hA := hM.agg; obtain ⟨hA1, hA2⟩ := hA; clear hM; go_simp; with_reducible rfl)) ?_; simp only [Act.put, List.setIfInBounds_toArray, List.set_cons_zero, List.set_cons_succ])
      | (refine sq_no rfl (by rfl) ?_; simp only [Act.put, List.setIfInBounds_toArray, List.set_cons_zero, List.set_cons_succ]))
    refine sq_do_yes rfl (by rfl) (fun K hK => ?_)
    go_wp2_with fail
    refine (pnew_any c a3 3 c3 n N (som 0 3) _ (HS3.out.rd Mb.len).1 (som_ok _ _) CK.out HCS.out HCV.out hn1 hn2 hN1 hN2).mono ?_
    rintro e w4 ⟨p, t, lv, sv, rfl, hP, hb4⟩
    have HBB := Lib.hid HB.out.size
    have HGB := Lib.hid (show g < w3.heap.size from HC.out.lt)
    replace HB := Lib.hid (step_below HB.out hb4)
    replace HC := Lib.hid (HC.out.below hb4 HC.out.lt)
    have HP := Lib.hid hP
    clear hP HS3
    go_wp2_with fail
    refine ⟨Mod.of_below hb4, ?_⟩
    clear hb4
    repeat (first
      | (refine sq_yes rfl (by rfl) (fun w' hM => by ((try replace hM := hM.of_drew); obtain ⟨hR1, hR2, hR3⟩ := hM.rules; have hA := hM.agg; obtain ⟨hA1, hA2⟩ := hA; clear hM; go_simp; with_reducible rfl)) ?_; simp only [Act.put, List.setIfInBounds_toArray, List.set_cons_zero, List.set_cons_succ])
      | (refine sq_no rfl (by rfl) ?_; simp only [Act.put, List.setIfInBounds_toArray, List.set_cons_zero, List.set_cons_succ]))
    refine sq_end ?_
    have HSL := Lib.hid (fillR_len [] (som 0 3) n (som_ok _ _))
    have HRF := Lib.hid (show RF N ((List.replicate N v0).set 0 ⟨sv, fillR [] (som 0 3) n, 0, false⟩) [] from ⟨by simp, (fun j x hx => by
      rw [List.getElem?_set, List.getElem?_replicate] at hx
      split at hx
      · split at hx
        · simp only [Option.some.injEq] at hx
          subst hx
          exact ⟨rfl, rfl, by have := HSL.out; simp only; omega⟩
        · cases hx
      · split at hx
        · simp only [Option.some.injEq] at hx
          subst hx
          exact ⟨rfl, rfl, by simp [v0]⟩
        · cases hx), by simp⟩)
    generalize fillR [] (som 0 3) n = S0 at *
    generalize (List.replicate N v0).set 0 ⟨sv, S0, 0, false⟩ = vs0 at *
    generalize som 0 3 = L0 at *
    generalize w3.heap.size = B at *
    go_wp2_with fail
    go_loopw [10, 11, 12, 13, 14, 15, 16, 17, 18, 19] (fun s10 s11 s12 _ _ _ _ _ _ _ wx => ∃ (i now : Nat) (vs : List V) (H : List Hd) (lv sv : Value) (L : List Mb) (S : List Dp), s12 = .int .i64 (i : Nat) ∧ i ≤ nh ∧ H.length ≤ i ∧ RF N vs H ∧ Po wx B p t c vs now lv L sv S ∧ (S.length = 0 ∨ S.length = n) ∧ HS wx B H ∧ Qu 3 wx B s10 (vH H) ∧ Qu 65 wx B s11 (vW H) ∧ At wx g 27 (cc c) ∧ Below w.heap.size w wx) (fun _ _ s12 _ _ _ _ _ _ _ _ => nh - (intOf s12).toNat)
    case atStart => exact ⟨0, 0, vs0, [], lv, sv, L0, S0, rfl, Nat.zero_le _, Nat.zero_le _, HRF.out, HP.out, HSL.out, (fun x hx => by cases hx), Qu.nil _ _ _, Qu.nil _ _ _, HC.out, HB.out⟩
    case round =>
      clear HP HB HC HRF HSL
      obtain ⟨i, now, vs, H, lv1, sv1, L, S, rfl, hi, hHl, hRF, hP, hSL, hHS, hQH, hQW, hC, hb⟩ := hrel
      have HRF := Lib.hid hRF
      have HP := Lib.hid hP
      have HSL := Lib.hid hSL
      have HSS := Lib.hid hHS
      have QH := Lib.hid hQH
      have QW := Lib.hid hQW
      have HC := Lib.hid hC
      have HB := Lib.hid hb
      have HHL := Lib.hid hHl
      clear hRF hP hSL hHS hQH hQW hC hb hHl
      by_cases hlt : i < nh
      · have hltz : (i : Int) < (nh : Int) := by omega
        have hltd : decide (i < nh) = true := by simpa using hlt
        obtain ⟨bh, oh, hah, hbh, hch⟩ := HH.out.2 (by omega)
        obtain ⟨hold, hho⟩ : ∃ x, bs[i]? = some x := ⟨_, List.getElem?_eq_getElem (by rw [HH.out.1]; exact hlt)⟩
        have ch0 := hch i hold hho 0 (by omega)
        rw [Nat.mul_one, Nat.add_zero] at ch0
        simp only [List.getElem?_cons_zero] at ch0
        replace ch0 := (HB.out.cell (p := ⟨bh, oh + i, none⟩) hbh).trans ch0
        have lbh : bh < wr.heap.size := Nat.lt_of_lt_of_le hbh HB.out.size
        obtain ⟨bw, ow, haw, hbw, hcw⟩ := HW.out.2 (by omega)
        have cw0 := hcw i (by omega)
        obtain ⟨x, hx⟩ : ∃ x, x = ws.getD i 0 := ⟨_, rfl⟩
        rw [← hx] at cw0
        have HXB := Lib.hid (show -9223372036854775808 ≤ x ∧ x ≤ 9223372036854775807 by
          rw [hx, List.getD_eq_getElem?_getD, List.getElem?_eq_getElem (by rw [HW.out.1]; omega)]
          exact HWF.out _ (List.getElem_mem _))
        have CW := Lib.hid (And.intro cw0 hbw)
        clear hch hho hcw cw0 hbh hbw hx
        subst hah
        subst haw
        go_upto_if 64 with (fail)
        clear ch0 lbh
        go_cut [10, 11, 13, 65, 66, 67, 68, 69, 70, 71, 72, 73, 74, 75, 76, 77, 78, 79, 80, 81, 82, 83, 84, 85, 86, 87, 88, 89, 90, 91, 92, 93, 94, 95, 96, 97, 98, 99, 100, 101] (fun s10 s11 _ _ _ _ _ _ _ _ _ _ _ _ _ _ _ _ _ _ _ _ _ _ _ _ _ _ _ _ _ _ _ _ _ _ _ _ _ _ wx => ∃ (vs : List V) (H : List Hd), H.length ≤ i + 1 ∧ RF N vs H ∧ Po wx B p t c vs now lv1 L sv1 S ∧ HS wx B H ∧ Qu 3 wx B s10 (vH H) ∧ Qu 65 wx B s11 (vW H) ∧ At wx g 27 (cc c) ∧ Below w.heap.size w wx)
        case first =>
          obtain ⟨aH, cH, hsH, _⟩ := QH.out.form
          obtain ⟨aW, cW, hsW, _⟩ := QW.out.form
          rw [vH_len] at hsH
          rw [vW_len] at hsW
          obtain ⟨nH, hnH⟩ : ∃ k, k = H.length := ⟨_, rfl⟩
          rw [← hnH] at hsH hsW
          have HNH := Lib.hid hnH
          subst hsH
          subst hsW
          clear hnH
          cases hold with
          | true =>
            obtain ⟨y, hy, hy1, hy2, hy3⟩ := HRF.out.get (show now < N by rw [← HRF.out.len]; exact HP.out.lt)
            have HY := Lib.hid hy
            have HY1 := Lib.hid (And.intro hy1 hy3)
            have HLV := Lib.hid (show liveB vs now (now : Int) = true by rw [liveB_at hy]; simp)
            clear hy hy1 hy2 hy3
            go_wp2_with fail
            refine (now_any HP.out).mono ?_
            rintro e w5 ⟨rfl, rfl⟩
            go_wp2_with fail
            refine (ref_yes HP.out now y HY.out HLV.out (by rw [HY1.out.1]; have := cnt_le H now; have := HHL.out; omega)).mono ?_
            rintro e w6 ⟨rfl, hP, hm⟩
            replace HB := Lib.hid (hm.bel HP.out HBB.out HB.out)
            replace HC := Lib.hid (HC.out.mod hm (by have := HP.out.bp; have := HP.out.bt; have := HGB.out; omega))
            replace HSS := Lib.hid (HSS.out.md HP.out hm)
            replace QH := Lib.hid (QH.out.md HP.out ⟨by decide, by decide⟩ hm)
            replace QW := Lib.hid (QW.out.md HP.out ⟨by decide, by decide⟩ hm)
            replace HP := Lib.hid hP
            have HXX := Lib.hid (show (vs.set now { y with refs := y.refs + 1 })[now]? = some { y with refs := y.refs + 1 } by rw [List.getElem?_set_self]; exact (List.getElem?_eq_some_iff.1 HY.out).1)
            replace HLV := Lib.hid (show liveB (vs.set now { y with refs := y.refs + 1 }) now (now : Int) = true by rw [liveB_at HXX.out]; simp)
            clear hP hm
            go_wp2_with (at_builtin; refine wpList_qu_app1 (y := .int .i64 (now : Int)) rfl slI infoI rfl QH.out rfl (by rw [vH_len]; have := HHL.out; unfold maxLen; omega) (by rw [vH_len]; have := HHL.out; omega) (Nat.le_trans (show B ≤ p from HP.out.bp) (Nat.le_of_lt HP.out.obj.lt)) rfl rfl rfl rfl ?_; intro vH2 w7 hq7 hm7 _; have HQ7 := Lib.hid hq7; have HM7 := Lib.hid hm7; clear hq7 hm7)
            replace HP := Lib.hid (HP.out.qu QH.out ⟨by decide, by decide, by decide, by decide⟩ HM7.out)
            replace HSS := Lib.hid (HSS.out.qu QH.out (by decide) HM7.out)
            replace HC := Lib.hid (HC.out.mod HM7.out (QH.out.ne HC.out (by decide)))
            replace QW := Lib.hid (QW.out.mod HM7.out (fun g hg => QW.out.apart QH.out (by decide) hg))
            replace HB := Lib.hid (QH.out.bel HBB.out HB.out HM7.out)
            clear QH HM7
            refine (slots_any HP.out now _ HXX.out HLV.out HY1.out.2).mono ?_
            rintro e w8 ⟨vS, rfl, hs8, hb8⟩
            obtain ⟨aS, cS, hvS⟩ := hs8.form
            obtain ⟨lS, hlS⟩ : ∃ k, k = y.S.length := ⟨_, rfl⟩
            have hvS2 : vS = .slice aS lS cS := by rw [hlS]; exact hvS
            clear hvS
            subst hvS2
            have HS8 := Lib.hid (hs8.base (show B ≤ w7.heap.size from HP.out.le))
            replace HP := Lib.hid (HP.out.below hb8)
            replace HSS := Lib.hid (HSS.out.below hb8)
            replace HC := Lib.hid (HC.out.below hb8 HC.out.lt)
            replace QW := Lib.hid (QW.out.below hb8)
            replace HQ7 := Lib.hid (HQ7.out.below hb8)
            replace HB := Lib.hid (step_below HB.out hb8)
            clear hs8 hb8 hlS
            go_wp2_with (at_builtin; refine wpList_qu_app1 (y := .slice aS lS cS) rfl slSD infoSD rfl QW.out rfl (by rw [vW_len]; have := HHL.out; unfold maxLen; omega) (by rw [vW_len]; have := HHL.out; omega) (show B ≤ w8.heap.size from HP.out.le) rfl rfl rfl rfl ?_; intro vW2 w9 hq9 hm9 _; have HQ9 := Lib.hid hq9; have HM9 := Lib.hid hm9; clear hq9 hm9)
            replace HP := Lib.hid (HP.out.qu QW.out ⟨by decide, by decide, by decide, by decide⟩ HM9.out)
            replace HSS := Lib.hid (HSS.out.qu QW.out (by decide) HM9.out)
            replace HS8 := Lib.hid (HS8.out.qu QW.out (by decide) HM9.out)
            replace HC := Lib.hid (HC.out.mod HM9.out (QW.out.ne HC.out (by decide)))
            replace HQ7 := Lib.hid (HQ7.out.mod HM9.out (fun g hg => HQ7.out.apart QW.out (by decide) hg))
            replace HB := Lib.hid (QW.out.bel HBB.out HB.out HM9.out)
            clear QW HM9
            go_meet
            exact ⟨_, H ++ [(now, .slice aS lS cS, y.S)], by rw [List.length_append]; have := HHL.out; simp; omega, HRF.out.ref HY.out _, HP.out, HSS.out.snoc HS8.out, by rw [show vH (H ++ [(now, .slice aS lS cS, y.S)]) = vH H ++ [.int .i64 (now : Int)] by simp [vH]]; exact HQ7.out, by rw [show vW (H ++ [(now, .slice aS lS cS, y.S)]) = vW H ++ [.slice aS lS cS] by simp [vW]]; exact HQ9.out, HC.out, HB.out⟩
          | false =>
            cases H with
            | nil =>
              obtain rfl : nH = 0 := HNH.out
              go_wp2_with fail
              go_meet
              exact ⟨vs, [], by simp, HRF.out, HP.out, HSS.out, QH.out, QW.out, HC.out, HB.out⟩
            | cons h0 r0 =>
              have hnp : 0 < nH := by rw [HNH.out]; simp
              have hnpz : (0 : Int) < (nH : Int) := by omega
              have hnd : decide (0 < nH) = true := by simpa using hnp
              obtain ⟨gH, oH, haH, _, lgH, cH0⟩ := QH.out.cell (vH_get (H := h0 :: r0) (k := 0) rfl)
              obtain ⟨gW, oW, haW, _⟩ := QW.out.cell (vW_get (H := h0 :: r0) (k := 0) rfl)
              subst haH
              subst haW
              have cw0 := (HB.out.cell (p := ⟨bw, ow + i, none⟩) CW.out.2).trans CW.out.1
              have lbw : bw < wr.heap.size := Nat.lt_of_lt_of_le CW.out.2 HB.out.size
              have hiw : (i : Int) < (nw : Int) := by omega
              obtain ⟨b3, hb3⟩ : ∃ b, (x.tmod 3 == 0) = b := ⟨_, rfl⟩
              rw [Nat.add_zero] at cH0
              have HLN := Lib.hid (show nH ≤ cH by obtain ⟨_, _, h1, h2⟩ := QH.out.form; simp only [Value.slice.injEq] at h1; rw [HNH.out, ← vH_len]; rw [h1.2.2]; exact h2)
              have HLW := Lib.hid (show nH ≤ cW by obtain ⟨_, _, h1, h2⟩ := QW.out.form; simp only [Value.slice.injEq] at h1; rw [HNH.out, ← vW_len]; rw [h1.2.2]; exact h2)
              cases b3 with
              | false =>
                go_wp2_with fail
                go_meet
                exact ⟨vs, h0 :: r0, by have := HHL.out; omega, HRF.out, HP.out, HSS.out, QH.out, QW.out, HC.out, HB.out⟩
              | true =>
                obtain ⟨hv0, y, hy, hyS⟩ := HRF.out.hd h0 (by simp)
                have HLV := Lib.hid (show liveB vs now (h0.1 : Int) = true from HRF.out.live (by simp))
                obtain ⟨hr1, hr2⟩ := HRF.out.unref hy
                have HY := Lib.hid hy
                have HR2 := Lib.hid hr2
                have HR1 := Lib.hid hr1
                have HRB := Lib.hid (show y.refs < 1000000 by rw [(HRF.out.ver _ y hy).1]; have := cnt_le (h0 :: r0) h0.1; have := HHL.out; omega)
                clear hv0 hy hyS hr1 hr2
                go_wp2_with fail
                refine (unref_any HP.out h0.1 y HY.out HLV.out HRB.out).mono ?_
                rintro e w6 (⟨h, _⟩ | ⟨_, rfl, hP, hm⟩)
                · have := HR1.out; omega
                replace HB := Lib.hid (hm.bel HP.out HBB.out HB.out)
                replace HC := Lib.hid (HC.out.mod hm (by have := HP.out.bp; have := HP.out.bt; have := HGB.out; omega))
                replace HSS := Lib.hid (HSS.out.md HP.out hm)
                replace QH := Lib.hid (QH.out.md HP.out ⟨by decide, by decide⟩ hm)
                replace QW := Lib.hid (QW.out.md HP.out ⟨by decide, by decide⟩ hm)
                replace HP := Lib.hid hP
                clear hP hm cH0 lgH cw0 lbw hiw hb3
                go_wp2_with fail
                have hq1 := HLN.out
                have hq2 := HLW.out
                have hq3 : (1 : Int) ≤ (nH : Int) := by omega
                refine region_sq (fun _ => False) [(0, true), (1, true), (2, true), (3, true), (4, true), (5, true)] (by kernel_rfl) (by kernel_rfl) (fun _ _ d _ _ h => by cases d <;> exact h) ?_
                repeat (first
                  | (refine sq_yes rfl (by rfl) (fun w' hM => by ((try replace hM := hM.of_drew); obtain ⟨hR1, hR2, hR3⟩ := hM.rules; have hA := hM.agg; obtain ⟨hA1, hA2⟩ := hA; clear hM; go_simp; with_reducible rfl)) ?_; simp only [Act.put, List.setIfInBounds_toArray, List.set_cons_zero, List.set_cons_succ])
                  | (refine sq_no rfl (by rfl) ?_; simp only [Act.put, List.setIfInBounds_toArray, List.set_cons_zero, List.set_cons_succ]))
                refine sq_end ?_
                have qt : Qu 3 w6.drew B (.slice (if cH = 1 then some ⟨gH, oH, none⟩ else some ⟨gH, oH + 1, none⟩) (nH - 1) (cH - 1)) (vH r0) := Qu.tail (x := .int .i64 (h0.1 : Nat)) QH.out.drew
                have qw : Qu 65 w6.drew B (.slice (if cW = 1 then some ⟨gW, oW, none⟩ else some ⟨gW, oW + 1, none⟩) (nH - 1) (cW - 1)) (vW r0) := Qu.tail (x := h0.2.1) QW.out.drew
                generalize (if cH = 1 then some (⟨gH, oH, none⟩ : Addr) else some ⟨gH, oH + 1, none⟩) = aH1 at qt ⊢
                generalize (if cW = 1 then some (⟨gW, oW, none⟩ : Addr) else some ⟨gW, oW + 1, none⟩) = aW1 at qw ⊢
                have QT := Lib.hid (And.intro qt qw)
                clear qt qw
                go_wp2_with fail
                go_meet
                exact ⟨_, r0, by have := HHL.out; simp at this; omega, HR2.out, HP.out.drew, fun h hh => (HSS.out h (by simp [hh])).drew, QT.out.1, QT.out.2, HC.out.drew, HB.out.drew⟩
        case rest =>
          clear HRF HP HSS QH QW HC HB HHL
          obtain ⟨vs, H, hHl, hRF, hP, hHS, hQH, hQW, hC, hb⟩ := hcut
          have HRF := Lib.hid hRF
          have HP := Lib.hid hP
          have HSS := Lib.hid hHS
          have QH := Lib.hid hQH
          have QW := Lib.hid hQW
          have HC := Lib.hid hC
          have HB := Lib.hid hb
          have HHL := Lib.hid hHl
          clear hRF hP hHS hQH hQW hC hb hHl
          obtain ⟨aH, cH, hsH, _⟩ := QH.out.form
          obtain ⟨aW, cW, hsW, _⟩ := QW.out.form
          rw [vH_len] at hsH
          rw [vW_len] at hsW
          obtain ⟨nH, hnH⟩ : ∃ k, k = H.length := ⟨_, rfl⟩
          rw [← hnH] at hsH hsW
          have HNH := Lib.hid hnH
          have hn41 : nH ≤ 41 := by have := HHL.out; omega
          subst hsH
          subst hsW
          clear hnH
          have cw0 := (HB.out.cell (p := ⟨bw, ow + i, none⟩) CW.out.2).trans CW.out.1
          have lbw : bw < wc.heap.size := Nat.lt_of_lt_of_le CW.out.2 HB.out.size
          have hiw : (i : Int) < (nw : Int) := by omega
          have hbp : ¬ bw = p := by have := CW.out.2; have := HBB.out; have := HP.out.bp; omega
          have hbt : ¬ bw = t := by have := CW.out.2; have := HBB.out; have := HP.out.bt; omega
          go_wp2_with fail
          refine (now_any HP.out).mono ?_
          rintro e w5 ⟨rfl, rfl⟩
          go_wp2_with fail
          refine region_sq (fun i => i = p ∨ i = t) [(0, true), (1, true), (2, true), (3, true), (4, true), (5, true), (6, true), (7, true), (8, true), (9, false), (10, false), (11, true), (12, true), (13, true), (14, true), (15, true)] (by kernel_rfl) (by kernel_rfl) (fun _ _ d _ _ h => by cases d <;> exact h) ?_
          repeat (first
            | (refine sq_yes rfl (by rfl) (fun w' hM => by ((try replace hM := hM.of_drew); obtain ⟨hR1, hR2, hR3⟩ := hM.rules; have hA := hM.agg; obtain ⟨hA1, hA2⟩ := hA; clear hM; go_simp; with_reducible rfl)) ?_; simp only [Act.put, List.setIfInBounds_toArray, List.set_cons_zero, List.set_cons_succ])
            | (refine sq_no rfl (by rfl) ?_; simp only [Act.put, List.setIfInBounds_toArray, List.set_cons_zero, List.set_cons_succ]))
          clear cw0 lbw hiw hbp hbt
          refine sq_do_yes rfl (by rfl) (fun K hK => ?_)
          go_wp2_with fail
          refine (some_any x x HXB.out _).mono ?_
          rintro e w6 ⟨v6, rfl, hs6, hb6⟩
          have HS6 := Lib.hid hs6
          obtain ⟨a6, c6, hv6⟩ := hs6.form
          obtain ⟨l6, hl6⟩ : ∃ l, l = (som x x).length := ⟨_, rfl⟩
          rw [← hl6] at hv6
          subst hv6
          replace HP := Lib.hid (HP.out.drew.below hb6)
          replace HSS := Lib.hid (HS.below (fun h hh => (HSS.out h hh).drew) hb6)
          replace QH := Lib.hid (QH.out.drew.below hb6)
          replace QW := Lib.hid (QW.out.drew.below hb6)
          replace HC := Lib.hid (HC.out.drew.below hb6 HC.out.lt)
          replace HB := Lib.hid (step_below HB.out.drew hb6)
          clear hs6 hl6
          go_wp2_with fail
          refine ⟨Mod.of_below hb6, ?_⟩
          clear hb6
          repeat (first
            | (refine sq_yes rfl (by rfl) (fun w' hM => by ((try replace hM := hM.of_drew); obtain ⟨hR1, hR2, hR3⟩ := hM.rules; have hA := hM.agg; obtain ⟨hA1, hA2⟩ := hA; clear hM; go_simp; with_reducible rfl)) ?_; simp only [Act.put, List.setIfInBounds_toArray, List.set_cons_zero, List.set_cons_succ])
            | (refine sq_no rfl (by rfl) ?_; simp only [Act.put, List.setIfInBounds_toArray, List.set_cons_zero, List.set_cons_succ]))
          refine sq_do_yes rfl (by rfl) (fun K hK => ?_)
          go_wp2_with fail
          refine (reserve_any a6 l6 c6 _ n (som x x) HP.out HS6.out (som_ok _ _) HCS.out hn1 hn2 HSL.out).mono ?_
          rintro e w7 ⟨v, hv, hva, ⟨hvN, rfl, hb7⟩ | ⟨hvN, hvl, rfl, lv7, sv7, hP7, hm⟩⟩
          · replace HP := Lib.hid (HP.out.below hb7)
            replace HSS := Lib.hid (HSS.out.below hb7)
            replace QH := Lib.hid (QH.out.below hb7)
            replace QW := Lib.hid (QW.out.below hb7)
            replace HC := Lib.hid (HC.out.below hb7 HC.out.lt)
            replace HB := Lib.hid (step_below HB.out hb7)
            have HAL := Lib.hid (liveTo_all hva)
            go_wp2_with fail
            refine ⟨Mod.of_below hb7, ?_⟩
            clear hb7 hv hva
            repeat (first
              | (refine sq_yes rfl (by rfl) (fun w' hM => by ((try replace hM := hM.of_drew); obtain ⟨hR1, hR2, hR3⟩ := hM.rules; have hA := hM.agg; obtain ⟨hA1, hA2⟩ := hA; clear hM; go_simp; with_reducible rfl)) ?_; simp only [Act.put, List.setIfInBounds_toArray, List.set_cons_zero, List.set_cons_succ])
              | (refine sq_no rfl (by rfl) ?_; simp only [Act.put, List.setIfInBounds_toArray, List.set_cons_zero, List.set_cons_succ]))
            refine sq_end ?_
            have c66 := HC.out.cell 6
            rw [cl_head _ 6 (by omega)] at c66
            simp only [Cf.head, List.getElem?_cons_succ, List.getElem?_cons_zero, HCV.out] at c66
            have lg := HC.out.lt
            go_wp2_with fail
            refine region_sq (fun _ => False) [(0, true), (3, true), (4, true), (1, false), (2, true), (5, true), (6, true)] (by kernel_rfl) (by kernel_rfl) (fun _ _ d _ _ h => by cases d <;> exact h) ?_
            repeat (first
              | (refine sq_yes rfl (by rfl) (fun w' hM => by ((try replace hM := hM.of_drew); obtain ⟨hR1, hR2, hR3⟩ := hM.rules; have hA := hM.agg; obtain ⟨hA1, hA2⟩ := hA; clear hM; go_simp; with_reducible rfl)) ?_; simp only [Act.put, List.setIfInBounds_toArray, List.set_cons_zero, List.set_cons_succ])
              | (refine sq_no rfl (by rfl) ?_; simp only [Act.put, List.setIfInBounds_toArray, List.set_cons_zero, List.set_cons_succ]))
            refine sq_do_yes rfl (by rfl) (fun K hK => ?_)
            go_wp2_with fail
            refine (lives_any HP.out.drew (-1)).mono ?_
            rintro e w8 ⟨v8, rfl, ho, hb8⟩
            obtain ⟨a8, n8, c8, rfl, hn8, _, _⟩ := ho.parts
            obtain rfl : n8 = N := by
              rw [hn8, List.length_map, show cutP (-1) (liveTo vs now vs.length) = liveTo vs now vs.length from rfl, ← hvN, HAL.out, List.length_range, hvN, HRF.out.len]
            replace HP := Lib.hid (HP.out.drew.below hb8)
            replace HSS := Lib.hid (HS.below (fun h hh => (HSS.out h hh).drew) hb8)
            replace QH := Lib.hid (QH.out.drew.below hb8)
            replace QW := Lib.hid (QW.out.drew.below hb8)
            replace HC := Lib.hid (HC.out.drew.below hb8 HC.out.lt)
            replace HB := Lib.hid (step_below HB.out.drew hb8)
            have hnn : ((n8 : Int) == (n8 : Int)) = true := by simp
            clear ho
            go_wp2_with fail
            refine ⟨Mod.of_below hb8, ?_⟩
            clear hb8 c66 lg
            repeat (first
              | (refine sq_yes rfl (by rfl) (fun w' hM => by ((try replace hM := hM.of_drew); obtain ⟨hR1, hR2, hR3⟩ := hM.rules; have hA := hM.agg; obtain ⟨hA1, hA2⟩ := hA; clear hM; go_simp; with_reducible rfl)) ?_; simp only [Act.put, List.setIfInBounds_toArray, List.set_cons_zero, List.set_cons_succ])
              | (refine sq_no rfl (by rfl) ?_; simp only [Act.put, List.setIfInBounds_toArray, List.set_cons_zero, List.set_cons_succ]))
            refine sq_end ?_
            go_wp2_with fail
            go_roundw
            case rel => exact ⟨i + 1, now, vs, H, lv1, sv1, L, S, by go_num, by omega, HHL.out, HRF.out, HP.out, HSL.out, HSS.out, QH.out, QW.out, HC.out, HB.out⟩
            case measure => simp [intOf] <;> omega
          · replace HB := Lib.hid (hm.bel HP.out HBB.out HB.out)
            replace HC := Lib.hid (HC.out.mod hm (by have := HP.out.bp; have := HP.out.bt; have := HGB.out; omega))
            replace HSS := Lib.hid (HS.md HSS.out HP.out hm)
            replace QH := Lib.hid (QH.out.md HP.out ⟨by decide, by decide⟩ hm)
            replace QW := Lib.hid (QW.out.md HP.out ⟨by decide, by decide⟩ hm)
            have HVN := Lib.hid (show v < N by rw [← HRF.out.len]; exact hvN)
            have HVL := Lib.hid hvl
            obtain ⟨hd1, _, hd3⟩ := HRF.out.dead HVN.out hvl
            have HD := Lib.hid (And.intro hd1 hd3)
            have HSL2 := Lib.hid (fillR_len S (som x x) n (som_ok _ _))
            generalize fillR S (som x x) n = S2 at *
            replace HP := Lib.hid hP7
            clear HSL HS6 hv hva hvl hvN hP7 hd1 hd3
            go_wp2_with fail
            refine ⟨hm, ?_⟩
            clear hm
            repeat (first
              | (refine sq_yes rfl (by rfl) (fun w' hM => by ((try replace hM := hM.of_drew); obtain ⟨hR1, hR2, hR3⟩ := hM.rules; have hA := hM.agg; obtain ⟨hA1, hA2⟩ := hA; clear hM; go_simp; with_reducible rfl)) ?_; simp only [Act.put, List.setIfInBounds_toArray, List.set_cons_zero, List.set_cons_succ])
              | (refine sq_no rfl (by rfl) ?_; simp only [Act.put, List.setIfInBounds_toArray, List.set_cons_zero, List.set_cons_succ]))
            refine sq_end ?_
            have c66 := HC.out.cell 6
            rw [cl_head _ 6 (by omega)] at c66
            simp only [Cf.head, List.getElem?_cons_succ, List.getElem?_cons_zero, HCV.out] at c66
            have lg := HC.out.lt
            go_wp2_with fail
            refine region_sq (fun _ => False) [(0, true), (3, true), (4, true), (1, false), (2, true), (5, true), (6, true)] (by kernel_rfl) (by kernel_rfl) (fun _ _ d _ _ h => by cases d <;> exact h) ?_
            repeat (first
              | (refine sq_yes rfl (by rfl) (fun w' hM => by ((try replace hM := hM.of_drew); obtain ⟨hR1, hR2, hR3⟩ := hM.rules; have hA := hM.agg; obtain ⟨hA1, hA2⟩ := hA; clear hM; go_simp; with_reducible rfl)) ?_; simp only [Act.put, List.setIfInBounds_toArray, List.set_cons_zero, List.set_cons_succ])
              | (refine sq_no rfl (by rfl) ?_; simp only [Act.put, List.setIfInBounds_toArray, List.set_cons_zero, List.set_cons_succ]))
            refine sq_do_yes rfl (by rfl) (fun K hK => ?_)
            go_wp2_with fail
            refine (lives_any HP.out.drew (-1)).mono ?_
            rintro e w8 ⟨v8, rfl, ho, hb8⟩
            obtain ⟨a8, n8, c8, rfl, _, _, _⟩ := ho.parts
            replace HP := Lib.hid (HP.out.drew.below hb8)
            replace HSS := Lib.hid (HS.below (fun h hh => (HSS.out h hh).drew) hb8)
            replace QH := Lib.hid (QH.out.drew.below hb8)
            replace QW := Lib.hid (QW.out.drew.below hb8)
            replace HC := Lib.hid (HC.out.drew.below hb8 HC.out.lt)
            replace HB := Lib.hid (step_below HB.out.drew hb8)
            obtain ⟨bt, hbt⟩ : ∃ b, ((n8 : Int) == (N : Int)) = b := ⟨_, rfl⟩
            clear ho
            go_wp2_with fail
            refine ⟨Mod.of_below hb8, ?_⟩
            clear hb8 c66 lg
            repeat (first
              | (refine sq_yes rfl (by rfl) (fun w' hM => by ((try replace hM := hM.of_drew); obtain ⟨hR1, hR2, hR3⟩ := hM.rules; have hA := hM.agg; obtain ⟨hA1, hA2⟩ := hA; clear hM; go_simp; with_reducible rfl)) ?_; simp only [Act.put, List.setIfInBounds_toArray, List.set_cons_zero, List.set_cons_succ])
              | (refine sq_no rfl (by rfl) ?_; simp only [Act.put, List.setIfInBounds_toArray, List.set_cons_zero, List.set_cons_succ]))
            refine sq_end ?_
            have hvn : ((v : Int) == (now : Int)) = false := by have := HD.out.1; simp; omega
            go_wp2_with fail
            go_loopw [18] (fun s18 wx => ∃ k : Nat, s18 = .int .i64 (k : Nat) ∧ k ≤ nH ∧ wx = w8) (fun s18 _ => nH - (intOf s18).toNat)
            case atStart => exact ⟨0, rfl, Nat.zero_le _, rfl⟩
            case round =>
              obtain ⟨k, rfl, hk, hwx⟩ := hrel
              obtain rfl := hwx.symm
              clear hwx
              by_cases hkn : k < nH
              · have hknz : (k : Int) < (nH : Int) := by omega
                obtain ⟨h, hh⟩ : ∃ h, H[k]? = some h := ⟨_, List.getElem?_eq_getElem (by rw [← HNH.out]; exact hkn)⟩
                obtain ⟨gH, oH, rfl, _, lgH, cH0⟩ := QH.out.cell (vH_get hh)
                have hne : ((h.1 : Int) == (v : Int)) = false := by have := HD.out.2 h (List.mem_of_getElem? hh); simp; omega
                clear hh
                go_wp2_with fail
                go_roundw
                case rel => exact ⟨k + 1, by go_num, by omega, trivial⟩
                case measure => simp [intOf] <;> omega
              · have hknz : ¬ (k : Int) < (nH : Int) := by omega
                clear hkn hk
                have HX := Lib.hid (show (vs.set v ⟨sv7, S2, 0, true⟩)[v]? = some ⟨sv7, S2, 0, true⟩ by rw [List.getElem?_set_self]; rw [HRF.out.len]; exact HVN.out)
                have HLV := Lib.hid (show liveB (vs.set v ⟨sv7, S2, 0, true⟩) now (v : Int) = true by rw [liveB_at HX.out]; simp)
                go_wp2_with fail
                refine (serve_any HP.out v _ HX.out HLV.out).mono ?_
                rintro e w9 (⟨h, _⟩ | ⟨_, rfl, hP9, hm⟩)
                · cases h
                replace HB := Lib.hid (hm.bel HP.out HBB.out HB.out)
                replace HC := Lib.hid (HC.out.mod hm (by have := HP.out.bp; have := HP.out.bt; have := HGB.out; omega))
                replace HSS := Lib.hid (HS.md HSS.out HP.out hm)
                replace QH := Lib.hid (QH.out.md HP.out ⟨by decide, by decide⟩ hm)
                replace QW := Lib.hid (QW.out.md HP.out ⟨by decide, by decide⟩ hm)
                rw [List.set_set] at hP9
                replace HP := Lib.hid hP9
                replace HRF := Lib.hid (HRF.out.anew (x := ⟨sv7, S2, 0, false⟩) HVN.out HVL.out rfl rfl (by have := HSL2.out; simp only; omega))
                clear HX HLV hP9 hm HD HVL
                have hvv : ((v : Int) != (v : Int)) = false := by simp
                generalize vs.set v ⟨sv7, S2, 0, false⟩ = vs2 at *
                go_wp2_with fail
                refine (now_any HP.out).mono ?_
                rintro e w10 ⟨rfl, rfl⟩
                go_wp2_with fail
                go_loopw [19] (fun s19 wx => ∃ k : Nat, s19 = .int .i64 (k : Nat) ∧ k ≤ nH ∧ Po wx B p t c vs2 v lv7 (som x x) sv7 S2 ∧ HS wx B H ∧ Qu 3 wx B (.slice aH nH cH) (vH H) ∧ Qu 65 wx B (.slice aW nH cW) (vW H) ∧ At wx g 27 (cc c) ∧ Below w.heap.size w wx) (fun s19 _ => nH - (intOf s19).toNat)
                case atStart => exact ⟨0, rfl, Nat.zero_le _, HP.out, HSS.out, QH.out, QW.out, HC.out, HB.out⟩
                case round =>
                  clear HP HSS QH QW HC HB
                  obtain ⟨k, rfl, hk, hP, hHS, hQH, hQW, hC, hb⟩ := hrel
                  have HP := Lib.hid hP
                  have HSS := Lib.hid hHS
                  have QH := Lib.hid hQH
                  have QW := Lib.hid hQW
                  have HC := Lib.hid hC
                  have HB := Lib.hid hb
                  clear hP hHS hQH hQW hC hb
                  by_cases hkn : k < nH
                  · have hknz2 : (k : Int) < (nH : Int) := by omega
                    obtain ⟨h, hh⟩ : ∃ h, H[k]? = some h := ⟨_, List.getElem?_eq_getElem (by rw [← HNH.out]; exact hkn)⟩
                    obtain ⟨gH, oH, rfl, _, lgH, cH0⟩ := QH.out.cell (vH_get hh)
                    obtain ⟨gW, oW, rfl, _, lgW, cW0⟩ := QW.out.cell (vW_get hh)
                    have hS := HSS.out h (List.mem_of_getElem? hh)
                    obtain ⟨hv64, y, hy, hyS⟩ := HRF.out.hd h (List.mem_of_getElem? hh)
                    have HLV := Lib.hid (show liveB vs2 v (h.1 : Int) = true from HRF.out.live (List.mem_of_getElem? hh))
                    obtain ⟨aS, cS, hvS⟩ := hS.form
                    obtain ⟨lS, hlS⟩ : ∃ l, l = h.2.2.length := ⟨_, rfl⟩
                    rw [hvS] at hS cW0
                    rw [← hlS] at hS cW0
                    have HLS := Lib.hid (show lS ≤ 4096 by omega)
                    have HSD := Lib.hid hS
                    have HY := Lib.hid (And.intro hy hyS)
                    have HYL := Lib.hid (show y.S.length ≤ 64 by rw [hyS]; exact hv64)
                    clear hh hS hvS hlS hy hyS hv64
                    go_wp2_with fail
                    refine region_sq (fun _ => False) [(0, true), (1, true), (2, true), (3, true), (4, true), (6, true), (7, true), (8, true), (9, true), (5, false), (10, false), (11, true)] (by kernel_rfl) (by kernel_rfl) (fun _ _ d _ _ h => by cases d <;> exact h) ?_
                    repeat (first
                      | (refine sq_yes rfl (by rfl) (fun w' hM => by ((try replace hM := hM.of_drew); obtain ⟨hR1, hR2, hR3⟩ := hM.rules; have hA := hM.agg; obtain ⟨hA1, hA2⟩ := hA; clear hM; go_simp; with_reducible rfl)) ?_; simp only [Act.put, List.setIfInBounds_toArray, List.set_cons_zero, List.set_cons_succ])
                      | (refine sq_no rfl (by rfl) ?_; simp only [Act.put, List.setIfInBounds_toArray, List.set_cons_zero, List.set_cons_succ]))
                    refine sq_do_yes rfl (by rfl) (fun K hK => ?_)
                    go_wp2_with fail
                    refine (slots_any HP.out.drew h.1 y HY.out.1 HLV.out HYL.out).mono ?_
                    rintro e w11 ⟨v11, rfl, hs11, hb11⟩
                    obtain ⟨a11, c11, hv11⟩ := hs11.form
                    obtain ⟨l11, hl11⟩ : ∃ l, l = y.S.length := ⟨_, rfl⟩
                    have hv11b : v11 = .slice a11 l11 c11 := by rw [hl11]; exact hv11
                    have HL11 := Lib.hid (show l11 ≤ 4096 by rw [hl11]; exact Nat.le_trans HYL.out (by decide))
                    clear hv11
                    subst hv11b
                    rw [HY.out.2] at hs11
                    have HS11 := Lib.hid hs11
                    replace HP := Lib.hid (HP.out.drew.below hb11)
                    replace HSS := Lib.hid (HS.below (fun h hh => (HSS.out h hh).drew) hb11)
                    replace HSD := Lib.hid (HSD.out.drew.below hb11)
                    replace QH := Lib.hid (QH.out.drew.below hb11)
                    replace QW := Lib.hid (QW.out.drew.below hb11)
                    replace HC := Lib.hid (HC.out.drew.below hb11 HC.out.lt)
                    replace HB := Lib.hid (step_below HB.out.drew hb11)
                    clear hs11 hl11
                    go_wp2_with fail
                    refine ⟨Mod.of_below hb11, ?_⟩
                    clear hb11 cH0 cW0 lgH lgW
                    repeat (first
                      | (refine sq_yes rfl (by rfl) (fun w' hM => by ((try replace hM := hM.of_drew); obtain ⟨hR1, hR2, hR3⟩ := hM.rules; have hA := hM.agg; obtain ⟨hA1, hA2⟩ := hA; clear hM; go_simp; with_reducible rfl)) ?_; simp only [Act.put, List.setIfInBounds_toArray, List.set_cons_zero, List.set_cons_succ])
                      | (refine sq_no rfl (by rfl) ?_; simp only [Act.put, List.setIfInBounds_toArray, List.set_cons_zero, List.set_cons_succ]))
                    refine sq_do_yes rfl (by rfl) (fun K hK => ?_)
                    go_wp2_with fail
                    refine (dips_any a11 l11 c11 h.2.2 aS lS cS h.2.2 _ (HS11.out.rd Dp.l_length).1 (HSD.out.rd Dp.l_length).1 HL11.out HLS.out).mono ?_
                    rintro e w12 ⟨rfl, hb12⟩
                    rw [show decide (h.2.2 = h.2.2) = true from decide_eq_true rfl]
                    replace HP := Lib.hid (HP.out.below hb12)
                    replace HSS := Lib.hid (HSS.out.below hb12)
                    replace QH := Lib.hid (QH.out.below hb12)
                    replace QW := Lib.hid (QW.out.below hb12)
                    replace HC := Lib.hid (HC.out.below hb12 HC.out.lt)
                    replace HB := Lib.hid (step_below HB.out hb12)
                    clear HS11 HSD
                    go_wp2_with fail
                    refine ⟨Mod.of_below hb12, ?_⟩
                    clear hb12
                    repeat (first
                      | (refine sq_yes rfl (by rfl) (fun w' hM => by ((try replace hM := hM.of_drew); obtain ⟨hR1, hR2, hR3⟩ := hM.rules; have hA := hM.agg; obtain ⟨hA1, hA2⟩ := hA; clear hM; go_simp; with_reducible rfl)) ?_; simp only [Act.put, List.setIfInBounds_toArray, List.set_cons_zero, List.set_cons_succ])
                      | (refine sq_no rfl (by rfl) ?_; simp only [Act.put, List.setIfInBounds_toArray, List.set_cons_zero, List.set_cons_succ]))
                    refine sq_end ?_
                    go_wp2_with fail
                    go_roundw
                    case rel => exact ⟨k + 1, by go_num, by omega, HP.out, HSS.out, QH.out, QW.out, HC.out, HB.out⟩
                    case measure => simp [intOf] <;> omega
                  · have hknz2 : ¬ (k : Int) < (nH : Int) := by omega
                    go_wp2_with fail
                    go_roundw
                    case rel => exact ⟨i + 1, v, vs2, H, lv7, sv7, som x x, S2, by go_num, by omega, HHL.out, HRF.out, HP.out, HSL2.out, HSS.out, QH.out, QW.out, HC.out, HB.out⟩
                    case measure => simp [intOf] <;> omega
      · have hltz : ¬ (i : Int) < (nh : Int) := by omega
        have hltd : decide (i < nh) = false := by simpa using hlt
        clear HP HSS QH QW HC HRF
        go_wp2_with fail
        refine (pawake_any _).mono ?_
        rintro e w5 ⟨rfl, hb⟩
        replace HB := Lib.hid (step_below HB.out hb)
        clear hb
        go_wp2_with fail
        go_ret
        exact ⟨rfl, HB.out⟩
end Go.Proofs.Ythfgccibiajneaa
