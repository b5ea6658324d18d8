/-
  UpdateEnds.
-/
import Derived.Test.YtgjecemmejaieaaBav
namespace Go.Proofs.Ytgjecemmejaieaa
open Go.RowKit Go.Shelf
/-- Behind so many asks. -/
structure As (s : Us) (i : Nat) : Prop where
  vs : Vs s.d.vs 16 i
  now : s.d.now = 0
  st : s.st = 0
  l : s.l = List.range' 1 i
  S : s.d.S.length = 0 ∨ s.d.S.length = 32
  mark : s.mark = 0
theorem rng_snoc (i : Nat) : List.range' 1 i ++ [i + 1] = List.range' 1 (i + 1) := by
  rw [List.range'_1_concat, Nat.add_comm 1 i]
set_option maxRecDepth 100000 in
set_option maxHeartbeats 8000000 in
theorem uends_any (ao : Option Addr) (no co : Nat) (L : List Int) (W : Nat) (w : World) (ho : Ints w ao no L) (hno : no ≤ 10) (hW : W ≤ 20) :
    Calls Try.prog 4 #[.slice ao no co, .int .i64 (W : Nat)] w fun e w' => e = .returned (.bool true) ∧ Below w.heap.size w w' := by
  have HO := Lib.hid ho
  have h1 : decide ((10 : Int) < (no : Int)) = false := by simp; omega
  have h1' : decide (10 < no) = false := by simp; omega
  have h3 : decide ((W : Int) < 0) = false := by simp
  have h4 : decide ((20 : Int) < (W : Int)) = false := by simp; omega
  have h4' : decide (20 < W) = false := by simp; omega
  have HRM := fun w => roomy_belU 7 w
  have CF := Lib.hid (cfg_roomy 7)
  have HF3 := Lib.hid fill3
  generalize roomy 7 = c at *
  clear ho
  go_enter Try.func4, Try.ntmps4
  go_wp2_with fail
  refine (HRM _).mono ?_
  rintro e w1 ⟨rfl, hb⟩
  have HB := Lib.hid hb
  clear hb HRM h1 h1' h3 h4 h4'
  go_wp2_with fail
  refine (fresh_any c 32 16 65536 _ CF.out).mono ?_
  rintro e w2 ⟨b, gm, k, d, rfl, hbb, hbd, hkB, hkN, ⟨p, t, lv, sv, B, rfl⟩, hU, -, hb⟩
  have HD := Lib.hid (show Bd w1 w2 c b gm k (s0 (d0 p t 32 16 B lv sv) 65536) 0 0 (.slice none 0 0) from ⟨hbd, hU, hb, hkB⟩)
  have HA := Lib.hid (show As (s0 (d0 p t 32 16 B lv sv) 65536) 0 from ⟨Vs.zero sv 32 16 (by decide) (by decide) HF3.out, rfl, rfl, rfl, fillR_len _ _ _ (sm_ok 3), rfl⟩)
  have HKB := Lib.hid hkB
  clear hbb hbd hkB hU hb hkN
  generalize s0 (d0 p t 32 16 B lv sv) 65536 = s1 at *
  go_wp2_with fail
  go_loopw [7, 8, 9, 10] (fun s7 s8 _ _ wx => ∃ (i : Nat) (s : Us), s7 = .int .i64 (i : Nat) ∧ s8 = .int .i64 (i : Nat) ∧ i ≤ no ∧ As s i ∧ Bd w1 wx c b gm k s 0 0 (.slice none 0 0)) (fun _ s8 _ _ _ => no - (intOf s8).toNat)
  case atStart => exact ⟨0, s1, rfl, rfl, Nat.zero_le _, HA.out, HD.out⟩
  case round =>
    clear HA HD
    obtain ⟨i, s, rfl, rfl, hi, hA, hD⟩ := hrel
    have HA := Lib.hid hA
    have HD := Lib.hid hD
    clear hA hD
    by_cases hlt : i < no
    · have hltz : (i : Int) < (no : Int) := by omega
      have hltd : decide (i < no) = true := by simpa using hlt
      obtain ⟨bw, ow, haw, hbw, hcw⟩ := HO.out.2 (by omega)
      have cw0 := hcw i (by omega)
      obtain ⟨x, hx⟩ : ∃ x, x = L.getD i 0 := ⟨_, rfl⟩
      rw [← hx] at cw0
      subst haw
      have HBA := Lib.hid (step_below HB.out HD.out.bel)
      have lbw : bw < wr.heap.size := Nat.lt_of_lt_of_le hbw HBA.out.size
      have cwr := (HBA.out.cell (p := ⟨bw, ow + i, none⟩) hbw).trans cw0
      have hbu : ¬ UM k s bw := fun h => by
        have := (HD.out.up.um h).1
        have h2 := HKB.out
        have h3 := HB.out.size
        omega
      clear hcw cw0 hx hbw
      obtain ⟨-, c1, -, -, -, lb⟩ := HD.out.cells
      have nb := HD.out.not
      go_upto_region 10 with fail
      refine region_sq (UM k s) [(0, true), (1, true), (2, true), (3, true), (4, true), (5, true), (6, true), (7, true), (8, false), (9, false), (10, true), (11, true), (12, true), (13, true), (14, true)] (by kernel_rfl) (by kernel_rfl) (fun _ _ d _ _ h => by cases d <;> exact h) ?_
      repeat (first
        | (refine sq_yes rfl (by rfl) (fun w' hM => by ((try replace hM := hM.of_drew); obtain ⟨hR1, hR2, hR3⟩ := hM.rules; have hA := hM.agg; obtain ⟨hA1, hA2⟩ := hA; clear hM; go_simp; with_reducible rfl)) ?_; simp only [Act.put, List.setIfInBounds_toArray, List.set_cons_zero, List.set_cons_succ])
        | (refine sq_no rfl (by rfl) ?_; simp only [Act.put, List.setIfInBounds_toArray, List.set_cons_zero, List.set_cons_succ]))
      clear c1 lb cwr lbw hbu
      replace HD := Lib.hid HD.out.drew
      generalize wr.drew = w3 at *
      refine sq_do_yes rfl (by rfl) (fun K_ hK_ => ?_)
      go_wp2_with fail
      refine (usome_any x _).mono ?_
      rintro e w4 ⟨v4, rfl, hs, hb⟩
      obtain ⟨a4, c4, hv4⟩ := hs.form
      have HS := Lib.hid hs
      replace HD := Lib.hid (HD.out.below hb)
      have HMa := Lib.hid (Mod.of_below (M := UM k s) hb)
      obtain ⟨l4, hl4⟩ : ∃ l, l = (sm x).length := ⟨_, rfl⟩
      rw [← hl4] at hv4
      subst hv4
      clear hs hb hl4
      go_wp2_with fail
      refine ⟨HMa.out, ?_⟩
      clear HMa
      refine sq_do_yes rfl (by rfl) (fun K_ hK_ => ?_)
      go_wp2_with fail
      refine (ask_vs HD.out.up HA.out.vs HA.out.now a4 l4 c4 _ 32 (sm x) HS.out (sm_ok x) CF.out.s (by decide) (by decide) HA.out.S (by omega) (by rw [HA.out.l, List.length_range']; omega)).mono ?_
      rintro e w5 ⟨rfl, s5, hU, hvs, hnow, hst, hl, hws, hmk, hp, hS, hm⟩
      have HA5 := Lib.hid (show As s5 (i + 1) from ⟨hvs, hnow, hst.trans HA.out.st, by rw [hl, HA.out.l, rng_snoc], hS, hmk.trans HA.out.mark⟩)
      replace HD := Lib.hid (HD.out.act hm hU hp)
      have HMa := Lib.hid hm
      clear hU hvs hnow hst hl hws hmk hp hS hm HS HA
      have hwi : IntKind.i64.wrap ((i : Int) + 1) = ((i + 1 : Nat) : Int) := by rw [IntKind.wrap_i64]; omega
      go_wp2_with fail
      refine ⟨HMa.out, ?_⟩
      clear HMa nb
      repeat (first
        | (refine sq_yes rfl (by rfl) (fun w' hM => by ((try replace hM := hM.of_drew); obtain ⟨hR1, hR2, hR3⟩ := hM.rules; have hA := hM.agg; obtain ⟨hA1, hA2⟩ := hA; clear hM; go_simp; with_reducible rfl)) ?_; simp only [Act.put, List.setIfInBounds_toArray, List.set_cons_zero, List.set_cons_succ])
        | (refine sq_no rfl (by rfl) ?_; simp only [Act.put, List.setIfInBounds_toArray, List.set_cons_zero, List.set_cons_succ]))
      refine sq_end ?_
      go_wp2_with fail
      go_roundw
      case rel => exact ⟨i + 1, s5, by go_num, by go_num, by omega, HA5.out, HD.out⟩
      case measure => simp [intOf]; omega
    · have hltz : ¬ (i : Int) < (no : Int) := by omega
      have hltd : decide (i < no) = false := by simpa using hlt
      have hin : i = no := by omega
      subst hin
      have HE := Lib.hid (Ei.of HA.out.vs (by omega) HA.out.st HA.out.now HA.out.l)
      have HMK := Lib.hid HA.out.mark
      clear HA hlt
      go_wp2_with fail
      go_loopw [11, 12, 14, 15, 16, 17] (fun s11 s12 s14 _ _ _ wx => ∃ (t j q f : Nat) (s : Us), s11 = .int .i64 ((3 * j + q : Nat) : Int) ∧ s12 = .int .i64 (f : Nat) ∧ s14 = .int .i64 (t : Nat) ∧ t ≤ 100 ∧ q ≤ 2 ∧ f ≤ W ∧ (q = 0 ∨ j < i) ∧ (t ≤ 3 * j + q + f ∨ (j = i ∧ q = 0 ∧ f = W)) ∧ s.mark ≤ W ∧ Ei i 16 j q s ∧ Bd w1 wx c b gm k s 0 0 (.slice none 0 0)) (fun _ _ s14 _ _ _ _ => 100 - (intOf s14).toNat)
      case atStart => exact ⟨0, 0, 0, 0, s, rfl, rfl, rfl, by omega, by omega, by omega, .inl rfl, .inl (by omega), by rw [HMK.out]; omega, HE.out, HD.out⟩
      case round =>
        clear HE HD HMK s
        obtain ⟨t, j, q, f, s, rfl, rfl, rfl, ht, hq, hf, hqj, hpr, hmk, hE, hD⟩ := hrel
        have HE := Lib.hid hE
        have HD := Lib.hid hD
        have HPR := Lib.hid hpr
        have HMK := Lib.hid hmk
        have HJ := Lib.hid hE.jm
        clear hE hD hpr hmk
        by_cases hlt : t < 100
        · have hltz : (t : Int) < 100 := by omega
          obtain ⟨-, c1, -, -, -, lb⟩ := HD.out.cells
          have hws : IntKind.i64.wrap (((3 * j + q : Nat) : Int) + 1) = ((3 * j + (q + 1) : Nat) : Int) := by rw [IntKind.wrap_i64]; have := HJ.out; omega
          have hwf : IntKind.i64.wrap ((f : Int) + 1) = ((f + 1 : Nat) : Int) := by rw [IntKind.wrap_i64]; omega
          have hwt : IntKind.i64.wrap ((t : Int) + 1) = ((t + 1 : Nat) : Int) := by rw [IntKind.wrap_i64]; omega
          go_wp2_with fail
          refine (ucan_any HD.out.up f).mono ?_
          rintro e w6 ⟨rfl, rfl⟩
          by_cases hcan : canB s f = true
          · rw [hcan]
            have hq3 : q = 0 ∨ q = 1 ∨ q = 2 := by omega
            rcases hq3 with rfl | rfl | rfl
            · have hji : j < i := by
                unfold canB at hcan
                rw [HE.out.st, if_pos rfl, HE.out.l] at hcan
                simp at hcan
                omega
              go_wp2_with fail
              refine (go_ei0 HD.out.up HE.out hji f W).mono ?_
              rintro e w7 ⟨rfl, s7, hU, he, -, hmk, hp, hm⟩
              have HE7 := Lib.hid he
              have HM7 := Lib.hid hmk
              have HD7 := Lib.hid (HD.out.act hm hU hp)
              clear hU he hmk hp hm c1 lb HE HD HMK hcan
              go_wp2_with fail
              go_roundw
              case rel => exact ⟨t + 1, j, 1, f, s7, by go_num, rfl, by go_num, by omega, by omega, by omega, .inr hji, by have := HPR.out; omega, by rw [HM7.out]; omega, HE7.out, HD7.out⟩
              case measure => simp [intOf]; omega
            · have hji : j < i := by omega
              have hle : s.mark ≤ f := by
                unfold canB at hcan
                rw [HE.out.st, if_neg (by decide)] at hcan
                simpa using hcan
              go_wp2_with fail
              refine (go_ei1 HD.out.up HE.out hji f W hle).mono ?_
              rintro e w7 ⟨rfl, s7, hU, he, -, hmk, hp, hm⟩
              have HE7 := Lib.hid he
              have HM7 := Lib.hid hmk
              have HD7 := Lib.hid (HD.out.act hm hU hp)
              clear hU he hmk hp hm c1 lb HE HD HMK hcan hle
              go_wp2_with fail
              go_roundw
              case rel => exact ⟨t + 1, j, 2, f, s7, by go_num, rfl, by go_num, by omega, by omega, by omega, .inr hji, by have := HPR.out; omega, by rw [HM7.out]; omega, HE7.out, HD7.out⟩
              case measure => simp [intOf]; omega
            · have hji : j < i := by omega
              have hle : s.mark ≤ f := by
                unfold canB at hcan
                rw [HE.out.st, if_neg (by decide)] at hcan
                simpa using hcan
              go_wp2_with fail
              refine (go_ei2 HD.out.up HE.out hji f W hle).mono ?_
              rintro e w7 ⟨rfl, s7, hU, he, -, hmk, hp, hm⟩
              have HE7 := Lib.hid he
              have HM7 := Lib.hid hmk
              have HD7 := Lib.hid (HD.out.act hm hU hp)
              clear hU he hmk hp hm c1 lb HE HD HMK hcan hle
              go_wp2_with fail
              go_roundw
              case rel => exact ⟨t + 1, j + 1, 0, f, s7, by go_num, rfl, by go_num, by omega, by omega, by omega, .inl rfl, by have := HPR.out; omega, by rw [HM7.out]; omega, HE7.out, HD7.out⟩
              case measure => simp [intOf]; omega
          · have hcf : canB s f = false := by simpa using hcan
            rw [hcf]
            have HFW := Lib.hid (show f < W ∨ (j = i ∧ q = 0) by
              rcases Nat.lt_or_ge f W with h | h
              · exact .inl h
              · right
                unfold canB at hcf
                rw [HE.out.st] at hcf
                by_cases h0 : q = 0
                · rw [if_pos h0, HE.out.l, if_pos h0] at hcf
                  simp [h0] at hcf
                  exact ⟨by have := HJ.out; omega, h0⟩
                · rw [if_neg h0] at hcf
                  have := HMK.out
                  simp at hcf
                  omega)
            clear hcan hcf
            by_cases hfw : f < W
            · have hfz : (f : Int) < (W : Int) := by omega
              go_wp2_with fail
              go_roundw
              case rel => exact ⟨t + 1, j, q, f + 1, s, rfl, by go_num, by go_num, by omega, by omega, by omega, hqj, by have := HPR.out; omega, HMK.out, HE.out, HD.out⟩
              case measure => simp [intOf]; omega
            · have hfz : ¬ (f : Int) < (W : Int) := by omega
              go_wp2_with fail
              go_roundw
              case rel => exact ⟨t + 1, j, q, f, s, rfl, rfl, by go_num, by omega, by omega, by omega, hqj, by have := HPR.out; have := HFW.out; omega, HMK.out, HE.out, HD.out⟩
              case measure => simp [intOf]; omega
        · have hltz : ¬ (t : Int) < 100 := by omega
          obtain ⟨rfl, rfl, rfl⟩ : j = i ∧ q = 0 ∧ f = W := by have := HPR.out; have := HJ.out; omega
          have hm3 : IntKind.i64.wrap (3 * (j : Int)) = ((3 * j + 0 : Nat) : Int) := by rw [IntKind.wrap_i64]; omega
          obtain ⟨c0, c1, -, -, -, lb⟩ := HD.out.cells
          have HL := Lib.hid (show s.l = [] by rw [HE.out.l]; simp)
          clear hlt hqj
          go_wp2_with fail
          refine (ustep_any HD.out.up).mono ?_
          rw [HE.out.st]
          rintro e w6 ⟨rfl, rfl⟩
          go_wp2_with fail
          refine (uwait_any HD.out.up).mono ?_
          rw [HL.out]
          rintro e w7 ⟨v7, rfl, hs, hb⟩
          obtain ⟨a7, c7, hv7⟩ := hs.form
          subst hv7
          replace HD := Lib.hid (HD.out.below hb)
          clear hs hb c0 c1 lb
          obtain ⟨c0, c1, -, -, -, lb⟩ := HD.out.cells
          go_wp2_with fail
          refine (now_any HD.out.up.pool).mono ?_
          rw [show s.d.now = j from HE.out.now]
          rintro e w8 ⟨rfl, rfl⟩
          go_wp2_with fail
          refine (uawake_any _).mono ?_
          rintro e w9 ⟨rfl, hb⟩
          have HB2 := Lib.hid (step_below (step_below HB.out HD.out.bel) hb)
          clear hb
          go_wp2_with fail
          go_ret
          exact ⟨rfl, HB2.out⟩
end Go.Proofs.Ytgjecemmejaieaa
