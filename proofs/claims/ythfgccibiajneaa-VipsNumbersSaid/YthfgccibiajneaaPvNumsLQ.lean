/-
  VipsNumbers: its walk.
-/
import Derived.Test.YthfgccibiajneaaPvNumsQ
namespace Go.Proofs.Ythfgccibiajneaa
open Go.RowKit Go.Shelf
attribute [local go_sem ↓] exec_bldV3
set_option maxRecDepth 100000 in
theorem vnums_out (a : Int) (ao : Option Addr) (no co : Nat) (w : World) (h : a < 0 ∨ 20 < a ∨ 30 < no) :
    Calls Try.prog 7 #[.int .i64 a, .slice ao no co] w fun e w' => e = .returned (.bool true) ∧ Below w.heap.size w w' := by
  have hc : (decide (a < 0) = true) ∨ (decide (a < 0) = false ∧ decide (20 < a) = true) ∨ (decide (a < 0) = false ∧ decide (20 < a) = false ∧ decide ((30 : Int) < (no : Int)) = true ∧ decide (30 < no) = true) := by
    simp only [decide_eq_true_eq, decide_eq_false_iff_not]; omega
  clear h
  rcases hc with h1 | ⟨h1, h2⟩ | ⟨h1, h2, h3, h4⟩
  all_goals
    go_enter Try.func7, Try.ntmps7
    go_wp2_with fail
    refine (vawake_any _).mono ?_
    rintro e w1 ⟨rfl, hb⟩
    have HB := Lib.hid hb
    clear hb
    go_wp2_with fail
    go_ret
    exact ⟨rfl, HB.out⟩
set_option maxRecDepth 100000 in
set_option maxHeartbeats 8000000 in
theorem vnums_any (n : Nat) (ao : Option Addr) (no co : Nat) (L : List Int) (w : World) (ho : Ints w ao no L) (hn : n ≤ 20) (hno : no ≤ 30) :
    Calls Try.prog 7 #[.int .i64 (n : Nat), .slice ao no co] w fun e w' => e = .returned (.bool true) ∧ Below w.heap.size w w' := by
  have h1 : decide ((n : Int) < 0) = false := by simp
  have h2 : decide ((20 : Int) < (n : Int)) = false := by simp; omega
  have h2' : decide (20 < n) = false := by simp; omega
  have h3 : decide ((30 : Int) < (no : Int)) = false := by simp; omega
  have h4 : decide (30 < no) = false := by simp; omega
  have KR := Lib.hid (fun w => roomy_below 2 w)
  have KK := Lib.hid (fun w => key_any 7 true true w)
  have OK := Lib.hid (cok_roomyS 2)
  have hsl := Lib.hid (show (roomy 2).slots = ((32 : Nat) : Int) from rfl)
  have hve := Lib.hid (show (roomy 2).versions = ((16 : Nat) : Int) from rfl)
  rw [show akey 7 true true = kU 17 80 from k7_U] at KK
  have HO := Lib.hid ho
  generalize roomy 2 = c at *
  clear ho
  go_enter Try.func7, Try.ntmps7
  go_wp2_with fail
  refine (KR.out _).mono ?_
  rintro e w1 ⟨rfl, hb⟩
  have HB := Lib.hid hb
  clear hb h1 h2 h2' h3 h4
  go_wp2_with fail
  refine (xnew_any c _ OK.out).mono ?_
  rintro e w2 ⟨T, m, rfl, hX, hb⟩
  have HX := Lib.hid hX
  have HBASE := Lib.hid HB.out.size
  replace HB := Lib.hid (step_below HB.out hb)
  clear hX hb
  go_wp2_with fail
  refine (KK.out _).mono ?_
  rintro e w3 ⟨rfl, hb⟩
  replace HX := Lib.hid (HX.out.below hb)
  replace HB := Lib.hid (step_below HB.out hb)
  clear hb
  have hst := fun (w : World) (n : Nat) (Z : Array Value) (hn : n = w.heap.size) (hZ : Z.size = 37) => store_new (P := Try.prog) sizeK w n Z (kc (kU 17 80)) hn hZ (kc_size _) (kc_one _)
  go_upto_region 7 with fail
  obtain ⟨bk, hbk⟩ : ∃ g, g = w3.heap.size := ⟨_, rfl⟩
  rw [← hbk]
  have HK := Lib.hid (at_new w3 31 (kc (kU 17 80)) bk hbk)
  have HG := Lib.hid (show w.heap.size ≤ bk by rw [hbk]; exact HB.out.size)
  replace HX := Lib.hid (HX.out.alloc (.cells (kc (kU 17 80)) 31))
  replace HB := Lib.hid (HB.out.alloc HB.out.size (.cells (kc (kU 17 80)) 31))
  clear hbk hst
  generalize w3.alloc (.cells (kc (kU 17 80)) 31) = W4 at *
  go_wp2_with fail
  go_loopw [8, 9, 10] (fun s8 _ _ wx => ∃ (j : Nat) (X : Xs), s8 = .int .i64 (j : Nat) ∧ j ≤ n ∧ NX X (min j 16) ∧ Vx wx w1.heap.size T m c X ∧ At wx bk 31 (kc (kU 17 80)) ∧ Below w.heap.size w wx) (fun s8 _ _ _ => n - (intOf s8).toNat)
  case atStart => exact ⟨0, _, rfl, Nat.zero_le _, NX.zero, HX.out, HK.out, HB.out⟩
  case round =>
    clear HX HK HB
    obtain ⟨j, X, rfl, hj, hN, hX, hK, hB⟩ := hrel
    have HN := Lib.hid hN
    have HX := Lib.hid hX
    have HK := Lib.hid hK
    have HB := Lib.hid hB
    clear hN hX hK hB
    by_cases hlt : j < n
    · have hltz : (j : Int) < (n : Int) := by omega
      have hwr : IntKind.u16.wrap (j : Int) = (j : Int) := by rw [IntKind.wrap_u16]; omega
      have r1 := HK.out.row
      have o1 := HK.out.open
      have l1 := HK.out.lt
      have hbv : ∀ w, bldX Try.prog 86 #[(0, .int .u8 17), (1, .agg (ac (kU 17 80).dst)), (2, .int .u16 (j : Nat))] w = .ok (.value (.agg (vpc (vN j)))) w := build_vN j (by omega)
      go_wp2_with fail
      refine (xadd_any HX.out (vN j) none 0 0 32 16 [] (Rd.zero _ _ _ _) OK.out hsl.out hve.out (by omega) (by omega) (by omega) (by omega)).mono ?_
      clear r1 o1 l1 hbv hwr
      rintro e w5 (⟨h, _⟩ | ⟨_, ⟨i, d, h⟩, _⟩ | ⟨_, _, h, rfl, hb⟩ | ⟨_, _, i, u, h1, h2, rfl, d, _, _, _, h5, h6⟩)
      · rw [vN_ok] at h; cases h
      · exact absurd h (HN.out.not (by omega) (by omega) i d)
      · have h16 := HN.out.full h
        have hd : decide ((j : Int) < 16) = false := by simp; omega
        replace HX := Lib.hid (HX.out.below hb)
        replace HK := Lib.hid (HK.out.below hb HK.out.lt)
        replace HB := Lib.hid (step_below HB.out hb)
        have HN2 := Lib.hid (show NX X (min (j + 1) 16) by rw [show min (j + 1) 16 = min j 16 by omega]; exact HN.out)
        clear hb h h16 HN
        go_wp2_with fail
        go_roundw
        case rel => exact ⟨j + 1, X, by simp, by omega, HN2.out, HX.out, HK.out, HB.out⟩
        case measure => simp [intOf] <;> omega
      · have hi := HN.out.free h1 h2
        have hi16 := HN.out.lt h1
        obtain rfl : i = j := by omega
        have hd : decide ((i : Int) < 16) = true := by simp; omega
        have HN2 := Lib.hid (show NX (X.set i (vN i, some d)) (min (i + 1) 16) by
          have := HN.out
          rw [show min i 16 = i by omega] at this
          rw [show min (i + 1) 16 = i + 1 by omega]
          exact this.add hi16 d)
        replace HB := Lib.hid (HX.out.bel h6 HBASE.out HB.out)
        replace HK := Lib.hid (HK.out.mod h6 (by have := HX.out.tAt HK.out (by decide); simp [this]))
        replace HX := Lib.hid h5
        clear h1 h2 h5 h6 hi hi16 HN
        go_wp2_with fail
        go_roundw
        case rel => exact ⟨i + 1, _, by simp, by omega, HN2.out, HX.out, HK.out, HB.out⟩
        case measure => simp [intOf] <;> omega
    · have hltz : ¬ (j : Int) < (n : Int) := by omega
      obtain ⟨q, hq⟩ : ∃ q, q = min n 16 := ⟨_, rfl⟩
      have HN2 := Lib.hid (show NX X q by rw [hq, show n = j by omega]; exact HN.out)
      have HQ := Lib.hid hq
      have hq16 : q ≤ 16 := by omega
      have hqm : (if 16 < (n : Int) then (16 : Int) else (n : Int)) = (q : Int) := by split <;> omega
      clear HN hq
      go_upto_region 14 with fail
      clear hqm hlt hltz
      go_wp2_with fail
      go_loopw [11, 12, 13, 14, 15, 16] (fun s11 _ _ _ _ _ wx => ∃ (k : Nat) (X : Xs), s11 = .int .i64 (k : Nat) ∧ k ≤ no ∧ NX X q ∧ Vx wx w1.heap.size T m c X ∧ At wx bk 31 (kc (kU 17 80)) ∧ Below w.heap.size w wx) (fun s11 _ _ _ _ _ _ => no - (intOf s11).toNat)
      case atStart => exact ⟨0, X, rfl, Nat.zero_le _, HN2.out, HX.out, HK.out, HB.out⟩
      case round =>
        clear HX HK HB HN2
        obtain ⟨k, Y, rfl, hk, hN, hX, hK, hB⟩ := hrel
        have HN := Lib.hid hN
        have HX := Lib.hid hX
        have HK := Lib.hid hK
        have HB := Lib.hid hB
        clear hN hX hK hB
        go_upto_region 15 with fail
        go_cut [87, 88, 89, 90, 91, 92, 93, 94] (fun _ _ _ _ _ _ _ s94 wx => s94 = .bool (decide (k < no) && decide (0 < q)) ∧ wx = wr)
        case first =>
          rcases (show (¬ k < no) ∨ (k < no ∧ ¬ 0 < q) ∨ (k < no ∧ 0 < q) by omega) with hlt | ⟨hlt, hq0⟩ | ⟨hlt, hq0⟩
          · have hltz : ¬ (k : Int) < (no : Int) := by omega
            have hd := Lib.hid (show (decide (k < no) && decide (0 < q)) = false by simp [hlt])
            clear hlt
            go_wp2_with fail
            go_meet
            exact ⟨by rw [hd.out], rfl⟩
          · have hltz : (k : Int) < (no : Int) := by omega
            have hqz : decide ((0 : Int) < (q : Int)) = false := by simp; omega
            have hqn : decide (0 < q) = false := by simp; omega
            have hd := Lib.hid (show (decide (k < no) && decide (0 < q)) = false by simp [hqn])
            clear hq0
            go_wp2_with fail
            go_meet
            exact ⟨by rw [hd.out], rfl⟩
          · have hltz : (k : Int) < (no : Int) := by omega
            have hqz : decide ((0 : Int) < (q : Int)) = true := by simp; omega
            have hqn : decide (0 < q) = true := by simpa using hq0
            have hd := Lib.hid (show (decide (k < no) && decide (0 < q)) = true by simp [hlt, hqn])
            clear hq0
            go_wp2_with fail
            go_meet
            exact ⟨by rw [hd.out], rfl⟩
        case rest =>
        obtain ⟨rfl, rfl⟩ := hcut
        by_cases hgo : k < no ∧ 0 < q
        · have hd := Lib.hid (show (decide (k < no) && decide (0 < q)) = true by simp [hgo.1, hgo.2])
          rw [hd.out]
          obtain ⟨hlt, hq0⟩ := hgo
          have hltz : (k : Int) < (no : Int) := by omega
          obtain ⟨b, o, rfl, hbl, hc⟩ := (HO.out.below HB.out).2 (by omega)
          have hcx := hc k hlt
          obtain ⟨x, hx⟩ : ∃ x, x = L.getD k 0 := ⟨_, rfl⟩
          rw [← hx] at hcx
          clear hc hx
          go_wp2_with fail
          refine (round_big x (q : Int) (by omega) (by omega) _).mono ?_
          rintro e w5 ⟨rfl, rfl⟩
          obtain ⟨o', ho'⟩ : ∃ o : Nat, x % (q : Int) = (o : Int) := ⟨(x % (q : Int)).toNat, by rw [Int.toNat_of_nonneg (Int.emod_nonneg _ (by omega))]⟩
          have hoq : o' < q := by have := Int.emod_lt_of_pos x (show (0 : Int) < (q : Int) by omega); omega
          rw [ho']
          clear hbl hcx ho'
          obtain ⟨d0, hd0⟩ := (HN.out.2 o' (by omega)).1 hoq
          have HD := Lib.hid hd0
          clear hd0
          go_wp2_with fail
          refine (xvip_yes HX.out o' (vN o') d0 HD.out).mono ?_
          rintro e w6 ⟨rfl, hb⟩
          replace HX := Lib.hid (HX.out.below hb)
          replace HK := Lib.hid (HK.out.below hb HK.out.lt)
          replace HB := Lib.hid (step_below HB.out hb)
          clear hb
          have hst := fun (w : World) (n : Nat) (Z : Array Value) (hn : n = w.heap.size) (hZ : Z.size = 19) => store_new (P := Try.prog) sizeVp w n Z (vpc (vN o')) hn hZ (vpc_size _) (vp_one _)
          go_upto_region 19 with fail
          obtain ⟨bv, hbv⟩ : ∃ g, g = w6.heap.size := ⟨_, rfl⟩
          rw [← hbv]
          have HV := Lib.hid (at_new w6 86 (vpc (vN o')) bv hbv)
          replace HX := Lib.hid (HX.out.alloc (.cells (vpc (vN o')) 86))
          replace HK := Lib.hid (HK.out.alloc (.cells (vpc (vN o')) 86))
          replace HB := Lib.hid (HB.out.alloc HB.out.size (.cells (vpc (vN o')) 86))
          clear hbv hst
          generalize w6.alloc (.cells (vpc (vN o')) 86) = W7 at *
          go_wp2_with fail
          refine (xrem_yes HX.out o' (vN o') d0 HD.out).mono ?_
          rintro e w8 ⟨rfl, hX, hm⟩
          replace HB := Lib.hid (HX.out.bel hm HBASE.out HB.out)
          replace HK := Lib.hid (HK.out.mod hm (by have := HX.out.tAt HK.out (by decide); simp [this]))
          replace HV := Lib.hid (HV.out.mod hm (by have := HX.out.tAt HV.out (by decide); simp [this]))
          replace HX := Lib.hid hX
          clear hX hm
          go_wp2_with fail
          refine (xlen_any HX.out).mono ?_
          rintro e w9 ⟨rfl, rfl⟩
          rw [HN.out.cntR hq16 hoq]
          have hq1 : (q : Int) - 1 = ((q - 1 : Nat) : Int) := by omega
          obtain ⟨ha, hao⟩ := HV.out.agg 0 19 (by rw [vpc_size]; omega)
          rw [show 0 + 19 = 19 from rfl, vpc_all] at ha
          have l1 := HV.out.lt
          go_wp2_with fail
          have HYL := Lib.hid HN.out.1
          have HNR := Lib.hid (show ∀ (i : Nat) (u : Vp), (Y.set o' (vz, none))[i]? = some (u, none) → (∀ x ∈ (Y.set o' (vz, none)).take i, x.2.isSome = true) → i = o' from fun i u h1 h2 => by
            rcases Nat.lt_trichotomy i o' with h3 | h3 | h3
            · rw [List.getElem?_set, if_neg (by omega)] at h1
              obtain ⟨e, he⟩ := (HN.out.2 i (by omega)).1 (by omega)
              rw [h1] at he; simp at he
            · exact h3
            · have := h2 (vz, none) (List.mem_of_getElem? (i := o') (by rw [List.getElem?_take, if_pos h3, List.getElem?_set, if_pos rfl, if_pos (by rw [HN.out.1]; omega)]))
              cases this)
          refine (xadd_any HX.out (vN o') none 0 0 32 16 [] (Rd.zero _ _ _ _) OK.out hsl.out hve.out (by omega) (by omega) (by omega) (by omega)).mono ?_
          clear ha hao l1 hq1
          rintro e w10 (⟨h, _⟩ | ⟨_, ⟨i, d, h⟩, _⟩ | ⟨_, _, h, rfl, hb⟩ | ⟨_, _, i, u, h1, h2, rfl, d, _, _, _, h5, h6⟩)
          · rw [vN_ok] at h; cases h
          · rw [List.getElem?_set] at h
            split at h
            · split at h <;> simp at h
            · obtain ⟨h1, h2⟩ := HN.out.some h
              have := vN_inj (by omega) (by omega) h2
              omega
          · have := h (vz, none) (List.mem_of_getElem? (i := o') (by rw [List.getElem?_set, if_pos rfl, if_pos (by rw [HN.out.1]; omega)]))
            cases this
          · obtain rfl := HNR.out i u h1 h2
            have HN2 := Lib.hid (HN.out.back hoq d)
            replace HB := Lib.hid (HX.out.bel h6 HBASE.out HB.out)
            replace HK := Lib.hid (HK.out.mod h6 (by have := HX.out.tAt HK.out (by decide); simp [this]))
            replace HX := Lib.hid h5
            clear h1 h2 h5 h6 HN HNR HV HD
            go_wp2_with fail
            go_roundw
            case rel => exact ⟨k + 1, _, by simp, by omega, HN2.out, HX.out, HK.out, HB.out⟩
            case measure => simp [intOf] <;> omega
        · have hd := Lib.hid (show (decide (k < no) && decide (0 < q)) = false by
            rw [Bool.and_eq_false_iff, decide_eq_false_iff_not, decide_eq_false_iff_not]; omega)
          rw [hd.out]
          clear hgo
          go_wp2_with fail
          go_loopw [17, 18, 19, 20, 21, 22, 23] (fun s17 _ _ _ _ _ _ wx => ∃ (i p : Nat), s17 = .int .i64 (i : Nat) ∧ i ≤ 20 ∧ Vx wx w1.heap.size T m c Y ∧ At wx bk 31 (kc (kU 17 p)) ∧ Below w.heap.size w wx) (fun s17 _ _ _ _ _ _ _ => 20 - (intOf s17).toNat)
          case atStart => exact ⟨0, 80, rfl, by omega, HX.out, HK.out, HB.out⟩
          case round =>
            clear HX HK HB
            obtain ⟨i, p, rfl, hi, hX, hK, hB⟩ := hrel
            have HX := Lib.hid hX
            have HK := Lib.hid hK
            have HB := Lib.hid hB
            clear hX hK hB
            by_cases hlt : i < 20
            · have hltz : (i : Int) < 20 := by omega
              have hwr : IntKind.u16.wrap (i : Int) = (i : Int) := by rw [IntKind.wrap_u16]; omega
              have c36 := HK.out.cell 36
              rw [kc_36?] at c36
              have f36 := HK.out.frozen 36
              have l36 := HK.out.lt
              have hk2 := HK.out.set 36 (.int .u16 (i : Nat))
              rw [kU_port 17 p i (by omega)] at hk2
              have HM := Lib.hid ((Mod.refl (fun g => g = bk) wr).setCell ⟨bk, 36, none⟩ (.int .u16 (i : Nat)) (fun _ => rfl))
              have HK2 := Lib.hid hk2
              clear hk2
              go_upto_region 28 with fail
              replace HX := Lib.hid (HX.out.keep HM.out (ty := 31) (fun g hg => ⟨kc (kU 17 p), by cases hg; exact HK.out⟩) (by decide) (by decide) (by decide) (by decide) (by decide))
              replace HB := Lib.hid (HB.out.setCell (p := ⟨bk, 36, none⟩) HG.out (.int .u16 (i : Nat)))
              clear c36 f36 l36 hwr HM HK
              generalize wr.setCell ⟨bk, 36, none⟩ (.int .u16 (i : Nat)) = W5 at *
              have r1 := HK2.out.row
              have o1 := HK2.out.open
              have l1 := HK2.out.lt
              go_wp2_with fail
              obtain ⟨rb, hrb⟩ : ∃ rb : Bool, rb = decide (i < q) := ⟨_, rfl⟩
              have HRB := Lib.hid hrb
              have hof : Calls Try.prog 52 #[.pointer (some ⟨T, 0, none⟩), .agg (kc (kU 17 i))] W5 fun e w' => e = .returned (.tuple #[.int .i64 (if rb then (i : Nat) else 0 : Nat), .bool rb]) ∧ Below W5.heap.size W5 w' := by
                by_cases hiq : i < q
                · obtain ⟨d, hd⟩ := (HN.out.2 i (by omega)).1 hiq
                  rw [hrb, decide_eq_true hiq]
                  exact xof_yes HX.out (kU 17 i) i d (kU_ok 17 i (.inr rfl)) (by rw [kU_vip]; exact hd)
                · rw [hrb, decide_eq_false hiq]
                  exact xof_no HX.out (kU 17 i) (.inr fun j d hd => by
                    rw [kU_vip] at hd
                    exact HN.out.not (by omega) (by omega) j d hd)
              clear hrb
              refine hof.mono ?_
              rintro e w6 ⟨rfl, hb⟩
              replace HX := Lib.hid (HX.out.below hb)
              replace HK2 := Lib.hid (HK2.out.below hb HK2.out.lt)
              replace HB := Lib.hid (step_below HB.out hb)
              clear hb hof r1 o1 l1
              have f0 := HK2.out.frozen 0
              have l0 := HK2.out.lt
              have c0 := HK2.out.cell 0
              rw [kc_0?] at c0
              have c36 := HK2.out.cell 36
              rw [kc_36?] at c36
              cases rb with
              | true =>
                have hiq : i < q := by have := HRB.out; simpa using this.symm
                have hd1 : decide ((i : Int) < (q : Int)) = true := by simp; omega
                obtain ⟨d, hdd⟩ := (HN.out.2 i (by omega)).1 hiq
                have HDD := Lib.hid hdd
                have hd2 : decide (i < q) = true := by simpa using hiq
                clear hdd
                go_wp2_with fail
                refine (xvip_yes HX.out i (vN i) d HDD.out).mono ?_
                rintro e w7 ⟨rfl, hb⟩
                replace HX := Lib.hid (HX.out.below hb)
                replace HK2 := Lib.hid (HK2.out.below hb HK2.out.lt)
                replace HB := Lib.hid (step_below HB.out hb)
                clear hb f0 l0 c0 c36 hd1 hd2 hiq
                have hst := fun (w : World) (n : Nat) (Z : Array Value) (hn : n = w.heap.size) (hZ : Z.size = 19) => store_new (P := Try.prog) sizeVp w n Z (vpc (vN i)) hn hZ (vpc_size _) (vp_one _)
                go_upto_region 33 with fail
                obtain ⟨bv, hbv⟩ : ∃ g, g = w7.heap.size := ⟨_, rfl⟩
                rw [← hbv]
                have HV := Lib.hid (at_new w7 86 (vpc (vN i)) bv hbv)
                replace HX := Lib.hid (HX.out.alloc (.cells (vpc (vN i)) 86))
                replace HK2 := Lib.hid (HK2.out.alloc (.cells (vpc (vN i)) 86))
                replace HB := Lib.hid (HB.out.alloc HB.out.size (.cells (vpc (vN i)) 86))
                clear hbv hst
                generalize w7.alloc (.cells (vpc (vN i)) 86) = W8 at *
                have f0 := HK2.out.frozen 0
                have l0 := HK2.out.lt
                have c0 := HK2.out.cell 0
                rw [kc_0?] at c0
                have c36 := HK2.out.cell 36
                rw [kc_36?, show (kU 17 i).dp = i from Nat.mod_eq_of_lt (by omega)] at c36
                have c18 := HV.out.cell 18
                rw [vl_get, ← vl_get, vl_18?, show (vN i).port = i from Nat.mod_eq_of_lt (by omega)] at c18
                have l18 := HV.out.lt
                have hk3 : At (W8.setCell ⟨bk, 0, none⟩ (.int .u8 6)) bk 31 (kc (kU 6 i)) := by
                  have := HK2.out.set 0 (.int .u8 ((6 : Nat) : Int))
                  rw [kU_proto 17 i 6 (by omega)] at this
                  exact this
                have HM := Lib.hid ((Mod.refl (fun g => g = bk) W8).setCell ⟨bk, 0, none⟩ (.int .u8 6) (fun _ => rfl))
                have HK3 := Lib.hid hk3
                clear hk3
                go_upto_region 36 with fail
                replace HX := Lib.hid (HX.out.keep HM.out (ty := 31) (fun g hg => ⟨kc (kU 17 i), by cases hg; exact HK2.out⟩) (by decide) (by decide) (by decide) (by decide) (by decide))
                replace HB := Lib.hid (HB.out.setCell (p := ⟨bk, 0, none⟩) HG.out (.int .u8 6))
                clear f0 l0 c0 c36 HM HK2 c18 l18 HV
                generalize W8.setCell ⟨bk, 0, none⟩ (.int .u8 6) = W9 at *
                have r1 := HK3.out.row
                have o1 := HK3.out.open
                have l1 := HK3.out.lt
                go_wp2_with fail
                refine (xof_no HX.out (kU 6 i) (.inr fun j d hd => HN.out.notU j d hd)).mono ?_
                rintro e w10 ⟨rfl, hb⟩
                replace HX := Lib.hid (HX.out.below hb)
                replace HK3 := Lib.hid (HK3.out.below hb HK3.out.lt)
                replace HB := Lib.hid (step_below HB.out hb)
                clear hb r1 o1 l1
                have f0 := HK3.out.frozen 0
                have l0 := HK3.out.lt
                have c0 := HK3.out.cell 0
                rw [kc_0?] at c0
                have hk4 : At (w10.setCell ⟨bk, 0, none⟩ (.int .u8 17)) bk 31 (kc (kU 17 i)) := by
                  have := HK3.out.set 0 (.int .u8 ((17 : Nat) : Int))
                  rw [kU_proto 6 i 17 (by omega)] at this
                  exact this
                have HM := Lib.hid ((Mod.refl (fun g => g = bk) w10).setCell ⟨bk, 0, none⟩ (.int .u8 17) (fun _ => rfl))
                have HK4 := Lib.hid hk4
                clear hk4
                go_upto_region 38 with fail
                replace HX := Lib.hid (HX.out.keep HM.out (ty := 31) (fun g hg => ⟨kc (kU 6 i), by cases hg; exact HK3.out⟩) (by decide) (by decide) (by decide) (by decide) (by decide))
                replace HB := Lib.hid (HB.out.setCell (p := ⟨bk, 0, none⟩) HG.out (.int .u8 17))
                clear f0 l0 c0 HM HK3
                generalize w10.setCell ⟨bk, 0, none⟩ (.int .u8 17) = W11 at *
                go_wp2_with fail
                go_roundw
                case rel => exact ⟨i + 1, i, by simp, by omega, HX.out, HK4.out, HB.out⟩
                case measure => simp [intOf] <;> omega
              | false =>
                have hiq : ¬ i < q := by have := HRB.out; simpa using this.symm
                have hd1 : decide ((i : Int) < (q : Int)) = false := by simp; omega
                have hd2 : decide (i < q) = false := by simpa using hiq
                have hk3 : At (w6.setCell ⟨bk, 0, none⟩ (.int .u8 6)) bk 31 (kc (kU 6 i)) := by
                  have := HK2.out.set 0 (.int .u8 ((6 : Nat) : Int))
                  rw [kU_proto 17 i 6 (by omega)] at this
                  exact this
                have HM := Lib.hid ((Mod.refl (fun g => g = bk) w6).setCell ⟨bk, 0, none⟩ (.int .u8 6) (fun _ => rfl))
                have HK3 := Lib.hid hk3
                clear hk3
                go_upto_region 36 with fail
                replace HX := Lib.hid (HX.out.keep HM.out (ty := 31) (fun g hg => ⟨kc (kU 17 i), by cases hg; exact HK2.out⟩) (by decide) (by decide) (by decide) (by decide) (by decide))
                replace HB := Lib.hid (HB.out.setCell (p := ⟨bk, 0, none⟩) HG.out (.int .u8 6))
                clear f0 l0 c0 c36 HM HK2 hd1 hd2 hiq
                generalize w6.setCell ⟨bk, 0, none⟩ (.int .u8 6) = W9 at *
                have r1 := HK3.out.row
                have o1 := HK3.out.open
                have l1 := HK3.out.lt
                go_wp2_with fail
                refine (xof_no HX.out (kU 6 i) (.inr fun j d hd => HN.out.notU j d hd)).mono ?_
                rintro e w10 ⟨rfl, hb⟩
                replace HX := Lib.hid (HX.out.below hb)
                replace HK3 := Lib.hid (HK3.out.below hb HK3.out.lt)
                replace HB := Lib.hid (step_below HB.out hb)
                clear hb r1 o1 l1
                have f0 := HK3.out.frozen 0
                have l0 := HK3.out.lt
                have c0 := HK3.out.cell 0
                rw [kc_0?] at c0
                have hk4 : At (w10.setCell ⟨bk, 0, none⟩ (.int .u8 17)) bk 31 (kc (kU 17 i)) := by
                  have := HK3.out.set 0 (.int .u8 ((17 : Nat) : Int))
                  rw [kU_proto 6 i 17 (by omega)] at this
                  exact this
                have HM := Lib.hid ((Mod.refl (fun g => g = bk) w10).setCell ⟨bk, 0, none⟩ (.int .u8 17) (fun _ => rfl))
                have HK4 := Lib.hid hk4
                clear hk4
                go_upto_region 38 with fail
                replace HX := Lib.hid (HX.out.keep HM.out (ty := 31) (fun g hg => ⟨kc (kU 6 i), by cases hg; exact HK3.out⟩) (by decide) (by decide) (by decide) (by decide) (by decide))
                replace HB := Lib.hid (HB.out.setCell (p := ⟨bk, 0, none⟩) HG.out (.int .u8 17))
                clear f0 l0 c0 HM HK3
                generalize w10.setCell ⟨bk, 0, none⟩ (.int .u8 17) = W11 at *
                go_wp2_with fail
                go_roundw
                case rel => exact ⟨i + 1, i, by simp, by omega, HX.out, HK4.out, HB.out⟩
                case measure => simp [intOf] <;> omega
            · have hltz : ¬ (i : Int) < 20 := by omega
              clear hlt
              go_wp2_with fail
              refine (vawake_any _).mono ?_
              rintro e w6 ⟨rfl, hb⟩
              replace HB := Lib.hid (step_below HB.out hb)
              clear hb
              go_wp2_with fail
              go_ret
              exact ⟨rfl, HB.out⟩
end Go.Proofs.Ythfgccibiajneaa
