/-
  UpdateMarks.
-/
import Derived.Test.YtgjecemmejaieaaBav
import Derived.Test.YtgjecemmejaieaaPoBadQ
namespace Go.Proofs.Ytgjecemmejaieaa
open Go.RowKit Go.Shelf
set_option maxRecDepth 100000 in
set_option maxHeartbeats 8000000 in
theorem umarks_any (n m : Int) (w : World) : Calls Try.prog 5 #[.int .i64 n, .int .i64 m] w fun e w' => e = .returned (.bool true) ∧ Below w.heap.size w w' := by
  by_cases hn : n < 0 ∨ 40 < n ∨ m < 0 ∨ 40 < m
  · have hc : decide (n < 0) = true ∨ (decide (n < 0) = false ∧ decide (40 < n) = true) ∨ (decide (n < 0) = false ∧ decide (40 < n) = false ∧ decide (m < 0) = true) ∨ (decide (n < 0) = false ∧ decide (40 < n) = false ∧ decide (m < 0) = false ∧ decide (40 < m) = true) := by
      simp only [decide_eq_true_eq, decide_eq_false_iff_not]
      omega
    rcases hc with h1 | ⟨h1, h2⟩ | ⟨h1, h2, h3⟩ | ⟨h1, h2, h3, h4⟩ <;>
    · clear hn
      go_enter Try.func5, Try.ntmps5
      go_wp2_with fail
      refine (uawake_any _).mono ?_
      rintro e w1 ⟨rfl, hb⟩
      have HB := Lib.hid hb
      clear hb
      go_wp2_with fail
      go_ret
      exact ⟨rfl, HB.out⟩
  · obtain ⟨a, rfl⟩ : ∃ a : Nat, n = a := ⟨n.toNat, by omega⟩
    obtain ⟨q, rfl⟩ : ∃ q : Nat, m = q := ⟨m.toNat, by omega⟩
    have ha : a ≤ 40 := by omega
    have hq : q ≤ 40 := by omega
    have h1 : decide ((a : Int) < 0) = false := by simp
    have h2 : decide ((40 : Int) < (a : Int)) = false := by simp; omega
    have h3 : decide ((q : Int) < 0) = false := by simp
    have h4 : decide ((40 : Int) < (q : Int)) = false := by simp; omega
    have HRM := fun w => roomy_belU 2 w
    have CF := Lib.hid (cfg_roomy 2)
    have HF3 := Lib.hid fill3
    generalize roomy 2 = c at *
    clear hn
    go_enter Try.func5, Try.ntmps5
    go_wp2_with fail
    refine (HRM _).mono ?_
    rintro e w1 ⟨rfl, hb⟩
    have HB := Lib.hid hb
    clear hb HRM h1 h2 h3 h4
    go_wp2_with fail
    refine (fresh_any c 32 16 65536 _ CF.out).mono ?_
    rintro e w2 ⟨b, gm, k, d, rfl, hbb, hbd, hkB, hkN, ⟨p, t, lv, sv, B, rfl⟩, hU, -, hb⟩
    have HD := Lib.hid (show Bd w1 w2 c b gm k (s0 (d0 p t 32 16 B lv sv) 65536) 0 0 (.slice none 0 0) from ⟨hbd, hU, hb, hkB⟩)
    clear hbb hbd hkB hU hb hkN
    obtain ⟨-, c1, -, -, -, lb⟩ := HD.out.cells
    go_wp2_with fail
    refine (ucan_any HD.out.up 0).mono ?_
    rw [show canB (s0 (d0 p t 32 16 B lv sv) 65536) 0 = false from rfl]
    rintro e w3 ⟨rfl, rfl⟩
    go_upto_region 6 with fail
    have nb := HD.out.not
    refine region_sq (UM k (s0 (d0 p t 32 16 B lv sv) 65536)) [(0, true), (1, true), (2, true), (3, true), (4, false), (5, false), (6, true), (7, true), (8, true), (9, true), (10, true)] (by kernel_rfl) (by kernel_rfl) (fun _ _ d _ _ h => by cases d <;> exact h) ?_
    repeat (first
      | (refine sq_yes rfl (by rfl) (fun w' hM => by ((try replace hM := hM.of_drew); obtain ⟨hR1, hR2, hR3⟩ := hM.rules; have hA := hM.agg; obtain ⟨hA1, hA2⟩ := hA; clear hM; go_simp; with_reducible rfl)) ?_; simp only [Act.put, List.setIfInBounds_toArray, List.set_cons_zero, List.set_cons_succ])
      | (refine sq_no rfl (by rfl) ?_; simp only [Act.put, List.setIfInBounds_toArray, List.set_cons_zero, List.set_cons_succ]))
    clear c1 lb
    replace HD := Lib.hid HD.out.drew
    generalize w3.drew = w3 at *
    refine sq_do_yes rfl (by rfl) (fun K_ hK_ => ?_)
    go_wp2_with fail
    refine (usome_any 2 _).mono ?_
    rintro e w4 ⟨v4, rfl, hs, hb⟩
    obtain ⟨a4, c4, hv4⟩ := hs.form
    have HS := Lib.hid hs
    replace HD := Lib.hid (HD.out.below hb)
    have HMa := Lib.hid (Mod.of_below (M := UM k (s0 (d0 p t 32 16 B lv sv) 65536)) hb)
    rw [show (sm 2).length = 2 from sm_len 2] at hv4
    subst hv4
    clear hs hb
    go_wp2_with fail
    refine ⟨HMa.out, ?_⟩
    clear HMa
    refine sq_do_yes rfl (by rfl) (fun K_ hK_ => ?_)
    go_wp2_with fail
    refine (ask_vs HD.out.up (Vs.zero sv 32 16 (by decide) (by decide) HF3.out) rfl a4 2 c4 _ 32 (sm 2) HS.out (sm_ok 2) CF.out.s (by decide) (by decide) (fillR_len _ _ _ (sm_ok 3)) (by decide) (show (0 : Nat) < 100000 by decide)).mono ?_
    rintro e w5 ⟨rfl, s5, hU, hvs, hnow, hst, hl, hws, hmk, hp, -, hm⟩
    have HE := Lib.hid (Ei.of hvs (by decide) hst hnow hl)
    have HL := Lib.hid (show canB s5 0 = true by unfold canB; rw [hst, hl]; rfl)
    replace HD := Lib.hid (HD.out.act hm hU hp)
    have HMa := Lib.hid hm
    clear hU hvs hnow hst hl hws hmk hp hm HS
    go_wp2_with fail
    refine ⟨HMa.out, ?_⟩
    clear HMa nb
    repeat (first
      | (refine sq_yes rfl (by rfl) (fun w' hM => by ((try replace hM := hM.of_drew); obtain ⟨hR1, hR2, hR3⟩ := hM.rules; have hA := hM.agg; obtain ⟨hA1, hA2⟩ := hA; clear hM; go_simp; with_reducible rfl)) ?_; simp only [Act.put, List.setIfInBounds_toArray, List.set_cons_zero, List.set_cons_succ])
      | (refine sq_no rfl (by rfl) ?_; simp only [Act.put, List.setIfInBounds_toArray, List.set_cons_zero, List.set_cons_succ]))
    refine sq_end ?_
    obtain ⟨-, c1, -, -, -, lb⟩ := HD.out.cells
    go_wp2_with fail
    refine (ucan_any HD.out.up 0).mono ?_
    rw [HL.out]
    rintro e w6 ⟨rfl, rfl⟩
    go_wp2_with fail
    refine (go_ei0 HD.out.up HE.out (by decide) 0 a).mono ?_
    rintro e w7 ⟨rfl, s7, hU, he, hws, hmk, hp, hm⟩
    replace HE := Lib.hid he
    have HMK := Lib.hid hmk
    replace HD := Lib.hid (HD.out.act hm hU hp)
    clear hU he hws hmk hp hm c1 lb HL
    have HCN := Lib.hid (show ∀ i : Nat, canB s7 (i : Int) = decide ((a : Int) ≤ (i : Int)) from fun i => by unfold canB; rw [HE.out.st, if_neg (by decide), HMK.out])
    obtain ⟨-, c1, -, -, -, lb⟩ := HD.out.cells
    go_wp2_with fail
    go_loopw [12, 13, 14, 15] (fun s12 _ _ _ wx => ∃ i : Nat, s12 = .int .i64 (i : Nat) ∧ i ≤ a + 1 ∧ wx = w7) (fun s12 _ _ _ _ => a + 1 - (intOf s12).toNat)
    case atStart => exact ⟨0, rfl, by omega, rfl⟩
    case round =>
      obtain ⟨i, rfl, hi, rfl⟩ := hrel
      by_cases hlt : i ≤ a
      · have hltz : (i : Int) ≤ (a : Int) := by omega
        go_wp2_with fail
        refine (ucan_any HD.out.up i).mono ?_
        rw [HCN.out i]
        rintro e w8 ⟨rfl, rfl⟩
        by_cases hge : a ≤ i
        · have hgz : decide ((a : Int) ≤ (i : Int)) = true := by simpa using hge
          have hgl : ¬ (i : Int) < (a : Int) := by omega
          rw [hgz]
          go_wp2_with fail
          go_roundw
          case rel => exact ⟨i + 1, by go_num, by omega, by trivial⟩
          case measure => simp [intOf]; omega
        · have hgz : decide ((a : Int) ≤ (i : Int)) = false := by simpa using hge
          have hgl : (i : Int) < (a : Int) := by omega
          rw [hgz]
          go_wp2_with fail
          refine (ugo_busy HD.out.up i a ((HCN.out i).trans hgz)).mono ?_
          rintro e w9 ⟨rfl, rfl⟩
          go_wp2_with fail
          refine (ustep_any HD.out.up).mono ?_
          rw [HE.out.st]
          rintro e w10 ⟨rfl, rfl⟩
          go_wp2_with fail
          go_roundw
          case rel => exact ⟨i + 1, by go_num, by omega, by trivial⟩
          case measure => simp [intOf]; omega
      · have hltz : ¬ (i : Int) ≤ (a : Int) := by omega
        have hsum : IntKind.i64.wrap ((a : Int) + (q : Int)) = (a : Int) + (q : Int) := by rw [IntKind.wrap_i64]; omega
        go_wp2_with fail
        refine (go_ei1 HD.out.up HE.out (by decide) a ((a : Int) + (q : Int)) (by rw [HMK.out]; exact Int.le_refl _)).mono ?_
        rintro e w9 ⟨rfl, s9, hU, he, hws, hmk, hp, hm⟩
        replace HE := Lib.hid he
        replace HMK := Lib.hid hmk
        replace HD := Lib.hid (HD.out.act hm hU hp)
        clear hU he hws hmk hp hm c1 lb HCN hlt hltz
        have HCN := Lib.hid (show ∀ f : Int, canB s9 f = decide ((a : Int) + (q : Int) ≤ f) from fun f => by unfold canB; rw [HE.out.st, if_neg (by decide), HMK.out])
        obtain ⟨c0, c1, -, -, -, lb⟩ := HD.out.cells
        go_wp2_with fail
        refine (now_any HD.out.up.pool).mono ?_
        rw [show s9.d.now = 1 from HE.out.now]
        rintro e w10 ⟨rfl, rfl⟩
        obtain ⟨x, hx, hxr, -⟩ := HE.out.ver 0 (by decide)
        go_wp2_with fail
        refine (refs_any HD.out.up.pool 0 x hx (by rw [live_some hx, hxr]; simp)).mono ?_
        rw [show x.refs = 1 by rw [hxr]; simp]
        rintro e w11 ⟨rfl, rfl⟩
        clear hx hxr x
        go_wp2_with fail
        go_loopw [19] (fun s19 wx => ∃ i : Nat, s19 = .int .i64 (i : Nat) ∧ i ≤ q + 1 ∧ wx = w11) (fun s19 _ => q + 1 - (intOf s19).toNat)
        case atStart => exact ⟨0, rfl, by omega, rfl⟩
        case round =>
          obtain ⟨i, rfl, hi, rfl⟩ := hrel
          by_cases hlt : i ≤ q
          · have hltz : (i : Int) ≤ (q : Int) := by omega
            have hsi : IntKind.i64.wrap ((a : Int) + (i : Int)) = (a : Int) + (i : Int) := by rw [IntKind.wrap_i64]; omega
            go_wp2_with fail
            refine (ucan_any HD.out.up ((a : Int) + (i : Int))).mono ?_
            rw [HCN.out, show decide ((a : Int) + (q : Int) ≤ (a : Int) + (i : Int)) = decide ((q : Int) ≤ (i : Int)) by rw [decide_eq_decide]; omega]
            rintro e w8 ⟨rfl, rfl⟩
            go_wp2_with fail
            go_roundw
            case rel => exact ⟨i + 1, by go_num, by omega, by trivial⟩
            case measure => simp [intOf]; omega
          · have hltz : ¬ (i : Int) ≤ (q : Int) := by omega
            have hsum2 : IntKind.i64.wrap ((a : Int) + (q : Int)) = (a : Int) + (q : Int) := by rw [IntKind.wrap_i64]; omega
            go_wp2_with fail
            refine (go_ei2 HD.out.up HE.out (by decide) ((a : Int) + (q : Int)) ((a : Int) + (q : Int)) (by rw [HMK.out]; exact Int.le_refl _)).mono ?_
            rintro e w12 ⟨rfl, s12, hU, he, hws, hmk, hp, hm⟩
            replace HE := Lib.hid he
            replace HMK := Lib.hid hmk
            replace HD := Lib.hid (HD.out.act hm hU hp)
            clear hU he hws hmk hp hm c0 c1 lb HCN hlt hltz
            have HCN := Lib.hid (show ∀ f : Int, canB s12 f = false from fun f => by unfold canB; rw [HE.out.st, if_pos rfl, HE.out.l]; rfl)
            obtain ⟨c0, c1, -, -, -, lb⟩ := HD.out.cells
            obtain ⟨x, hx, hxr, hxs, -⟩ := HE.out.ver 0 (by decide)
            have hn1 : s12.d.now = 1 := HE.out.now
            go_wp2_with fail
            refine (refs_no HD.out.up.pool 0 (by
              have := live_some (now := s12.d.now) hx
              rw [hn1, hxr, hxs] at this
              rw [hn1]
              simpa using this)).mono ?_
            rintro e w13 ⟨rfl, rfl⟩
            clear hx hxr hxs x hn1
            go_wp2_with fail
            refine (ustep_any HD.out.up).mono ?_
            rw [HE.out.st]
            rintro e w14 ⟨rfl, rfl⟩
            go_wp2_with fail
            refine (ucan_any HD.out.up ((a : Int) + (q : Int))).mono ?_
            rw [HCN.out]
            rintro e w15 ⟨rfl, rfl⟩
            go_wp2_with fail
            refine (uawake_any _).mono ?_
            rintro e w16 ⟨rfl, hb⟩
            have HB2 := Lib.hid (step_below (step_below HB.out HD.out.bel) hb)
            clear hb
            go_wp2_with fail
            go_ret
            exact ⟨rfl, HB2.out⟩
end Go.Proofs.Ytgjecemmejaieaa
