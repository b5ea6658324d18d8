/-
  The document's place and Members.
-/
import Derived.Test.YthfgccibiajneaaBas
namespace Go.Proofs.Ythfgccibiajneaa
open Go.RowKit Go.Shelf
set_option maxRecDepth 100000 in
set_option maxHeartbeats 4000000 in
/-- Which member a server is. -/
theorem place_dp (am : Option Addr) (nm cm : Nat) (M : List Mb) (d : Dp) (w : World) (hM : Rd 19 Mb.l w am nm M) (hn : nm ≤ 32) :
    Calls Try.prog 97 #[.slice am nm cm, .agg (dc d)] w fun e w' => Below w.heap.size w w' ∧ ((e = .returned (.int .i64 (-1)) ∧ ∀ x ∈ M, x.d ≠ d) ∨ ∃ k x, e = .returned (.int .i64 (k : Nat)) ∧ M[k]? = some x ∧ x.d = d ∧ ∀ z ∈ M.take k, z.d ≠ d) := by
  have HM := Lib.hid hM
  have HL := Lib.hid hM.1
  clear hM
  go_enter Try.func97, Try.ntmps97
  go_upto_region 1 with fail
  obtain ⟨bx, hbx⟩ : ∃ bx, bx = w.heap.size := ⟨_, rfl⟩
  rw [← hbx]
  have HX := Lib.hid (at_new w 92 (dc d) bx hbx)
  replace HM := Lib.hid (HM.out.alloc (.cells (dc d) 92))
  have HB := Lib.hid ((Below.refl w.heap.size w).alloc (Nat.le_refl _) (.cells (dc d) 92))
  clear hbx
  generalize w.alloc (.cells (dc d) 92) = W at *
  go_wp2_with fail
  go_loopw [5] (fun s5 wr => ∃ j : Nat, s5 = .int .i64 (j : Nat) ∧ j ≤ nm ∧ (∀ z ∈ M.take j, z.d ≠ d) ∧ Below W.heap.size W wr) (fun s5 _ => nm - (intOf s5).toNat)
  case atStart => exact ⟨0, rfl, Nat.zero_le _, by simp, Below.refl _ _⟩
  case round =>
    obtain ⟨j, rfl, hj, hz, hb⟩ := hrel
    have HZ := Lib.hid hz
    have HBW := Lib.hid hb
    clear hz hb
    by_cases hlt : j < nm
    · have hltz : (j : Int) < (nm : Int) := by omega
      obtain ⟨x, hx⟩ : ∃ x, M[j]? = some x := ⟨_, List.getElem?_eq_getElem (by rw [HL.out]; exact hlt)⟩
      have HXX := Lib.hid hx
      obtain ⟨b, o, rfl, hbl, ha, hao⟩ := (HM.out.below HBW.out).dip hx
      obtain ⟨ha2, hao2⟩ := (HX.out.below HBW.out HX.out.lt).agg 0 18 (by rw [dc_size]; omega)
      rw [show 0 + 18 = 18 from rfl, dc_all] at ha2
      have lx := (HX.out.below HBW.out HX.out.lt).lt
      clear hx
      by_cases hxd : x.d = d
      · have HXD := Lib.hid hxd
        have hdd : decide (x.d = d) = true := by simpa using hxd
        clear hxd
        go_wp2_with fail
        refine region_sq (fun _ => False) [(0, true), (1, true), (2, true), (3, true), (4, true), (5, true), (6, true)] (by kernel_rfl) (by kernel_rfl) (fun _ _ d _ _ h => by cases d <;> exact h) ?_
        repeat (first
          | (refine sq_yes rfl (by rfl) (fun w' hM => by ((try replace hM := hM.of_drew); obtain ⟨hR1, hR2, hR3⟩ := hM.rules; have hA := hM.agg; obtain ⟨hA1, hA2⟩ := hA; clear hM; go_simp; with_reducible rfl)) ?_; simp only [Act.put, List.setIfInBounds_toArray, List.set_cons_zero, List.set_cons_succ])
          | (refine sq_no rfl (by rfl) ?_; simp only [Act.put, List.setIfInBounds_toArray, List.set_cons_zero, List.set_cons_succ]))
        refine sq_end ?_
        go_wp2_with fail
        go_ret
        exact ⟨step_below HB.out HBW.out.drew, .inr ⟨j, x, rfl, HXX.out, HXD.out, HZ.out⟩⟩
      · have HXD := Lib.hid hxd
        have hdd : decide (x.d = d) = false := by simpa using hxd
        clear hxd
        go_wp2_with fail
        refine region_sq (fun _ => False) [(0, true), (1, true), (2, true), (3, true), (4, true), (5, true), (6, true)] (by kernel_rfl) (by kernel_rfl) (fun _ _ d _ _ h => by cases d <;> exact h) ?_
        repeat (first
          | (refine sq_yes rfl (by rfl) (fun w' hM => by ((try replace hM := hM.of_drew); obtain ⟨hR1, hR2, hR3⟩ := hM.rules; have hA := hM.agg; obtain ⟨hA1, hA2⟩ := hA; clear hM; go_simp; with_reducible rfl)) ?_; simp only [Act.put, List.setIfInBounds_toArray, List.set_cons_zero, List.set_cons_succ])
          | (refine sq_no rfl (by rfl) ?_; simp only [Act.put, List.setIfInBounds_toArray, List.set_cons_zero, List.set_cons_succ]))
        refine sq_end ?_
        go_wp2_with fail
        go_roundw
        case rel => exact ⟨j + 1, by go_num, by omega, fun z hz => by
          rw [List.take_add_one, HXX.out] at hz
          rcases List.mem_append.1 hz with hz | hz
          · exact HZ.out z hz
          · simp only [Option.toList_some, List.mem_singleton] at hz
            rw [hz]; exact HXD.out, HBW.out.drew⟩
        case measure => simp [intOf] <;> omega
    · have hltz : ¬ (j : Int) < (nm : Int) := by omega
      have HZA := Lib.hid (show ∀ x ∈ M, x.d ≠ d by
        have := HZ.out
        rwa [List.take_of_length_le (by rw [HL.out]; omega)] at this)
      go_wp2_with fail
      go_ret
      exact ⟨step_below HB.out HBW.out, .inl ⟨rfl, HZA.out⟩⟩
theorem refValid_below (a : Adr) (w : World) : Calls Try.prog 81 #[.agg (ac a)] w fun e w' => e = .returned (.bool (vld a)) ∧ Below w.heap.size w w' :=
  (refValid_any a w).mono fun _ _ ⟨h1, h2⟩ => ⟨h1, h2 ▸ (Below.refl _ w).alloc (Nat.le_refl _) _⟩
theorem loadAx (x : Operand) (dst : Option Tmp) (t : TypeId) (pos : String) (after : Array Edge) (g : Option (Nat × Bool)) (f : Operand → Value) (w : World)
    (hx : plainPtr (f x) = true) (ho : aggOk w (blk (f x)) (offOf (f x)) 17 = true) :
    (execOp f ⟨dst, .load 24 x, t, pos, after, g⟩).run Try.prog w = .ok (.value (.agg (aggAt w (blk (f x)) (offOf (f x)) 17))) w :=
  exec_load_agg 24 _ 17 Try.underlying24 rfl sizeA x dst t pos after g f w hx ho
attribute [local go_sem ↓] loadAx
theorem Rd.adrw {w : World} {a : Option Addr} {m : Nat} {L : List Mb} (h : Rd 19 Mb.l w a m L) {i : Nat} {x : Mb} (hx : L[i]? = some x) :
    ∃ b o, a = some ⟨b, o, none⟩ ∧ b < w.heap.size ∧ (aggAt w b (o + i * 19) 17 = ac x.d.a ∧ aggOk w b (o + i * 19) 17 = true) ∧ w.cell? ⟨b, o + i * 19 + 18, none⟩ = some (.int .i64 x.w) ∧ aggAt w b (o + i * 19) 18 = dc x.d ∧ aggOk w b (o + i * 19) 18 = true := by
  obtain ⟨b, o, hab, hlt, h1, h2⟩ := h.dip hx
  have hi : i < m := by have := (List.getElem?_eq_some_iff.1 hx).1; rw [h.1] at this; exact this
  obtain ⟨b', o', hab', _, hc⟩ := h.2 (by omega)
  rw [hab] at hab'
  simp only [Option.some.injEq, Addr.mk.injEq, and_true] at hab'
  obtain ⟨rfl, rfl⟩ := hab'
  refine ⟨b, o, hab, hlt, agg_of (vs := x.d.a.l) (Adr.l_length _) (fun j hj => ?_), ?_, h1, h2⟩
  · rw [hc i x hx j (by omega)]
    have e1 := ml_dip x j (by omega)
    rw [ml_get, dl_adr _ _ hj, ac_get] at e1
    exact e1
  · rw [hc i x hx 18 (by omega)]
    have := mc_18? x
    rw [ml_get] at this
    exact this
theorem mGo_drop {M : List Mb} {i : Nat} {x : Mb} (hx : M[i]? = some x) : mGo ((M.take i).map (·.d)) (M.drop i) = (mStep ((M.take i).map (·.d)) x && mGo ((M.take (i + 1)).map (·.d)) (M.drop (i + 1))) := by
  obtain ⟨hi, e⟩ := List.getElem?_eq_some_iff.1 hx
  rw [List.drop_eq_getElem_cons hi, e, mGo, List.take_add_one, hx, List.map_append]
  rfl
set_option maxRecDepth 100000 in
set_option maxHeartbeats 8000000 in
/-- May the members be? -/
theorem rmembers_any (am : Option Addr) (nm cm : Nat) (M : List Mb) (w : World) (hM : Rd 19 Mb.l w am nm M) (hn : nm ≤ 4096) :
    Calls Try.prog 95 #[.slice am nm cm] w fun e w' => e = .returned (.bool (mOk M)) ∧ Below w.heap.size w w' := by
  have HM := Lib.hid hM
  have HL := Lib.hid hM.1
  have HK0 := Lib.hid (show mOk M = (decide (nm ≤ 32) && mGo [] M) by unfold mOk; rw [hM.1])
  clear hM
  go_enter Try.func95, Try.ntmps95
  go_wp2_with fail
  go_loopw [3, 4] (fun s3 _ wr => ∃ j : Nat, s3 = .int .i64 (j : Nat) ∧ j ≤ nm ∧ mGo [] M = mGo ((M.take j).map (·.d)) (M.drop j) ∧ Below w.heap.size w wr) (fun s3 _ _ => nm - (intOf s3).toNat)
  case atStart => exact ⟨0, rfl, Nat.zero_le _, rfl, Below.refl _ _⟩
  case round =>
    obtain ⟨j, rfl, hj, hk, hb⟩ := hrel
    have HK := Lib.hid hk
    have HB := Lib.hid hb
    clear hk hb
    by_cases hlt : j < nm
    · have hltz : (j : Int) < (nm : Int) := by omega
      obtain ⟨x, hx⟩ : ∃ x, M[j]? = some x := ⟨_, List.getElem?_eq_getElem (by rw [HL.out]; exact hlt)⟩
      have HX := Lib.hid hx
      have HG := Lib.hid (show mGo [] M = _ from HK.out.trans (mGo_drop hx))
      obtain ⟨b, o, rfl, hbl, ⟨ha, hao⟩, hcw, ha2, hao2⟩ := (HM.out.below HB.out).adrw hx
      clear hx
      by_cases hv : vld x.d.a = true
      case neg =>
        have hv : vld x.d.a = false := by simpa using hv
        have HF := Lib.hid (show mOk M = false by rw [HK0.out, HG.out]; unfold mStep; rw [hv]; simp)
        go_wp2_with fail
        refine (refValid_below _ _).mono ?_
        rintro e w2 ⟨rfl, hbv⟩
        replace HB := Lib.hid (step_below HB.out hbv)
        replace hcw := (hbv.cell (p := ⟨b, o + j * 19 + 18, none⟩) hbl).trans hcw
        replace hbl := Nat.lt_of_lt_of_le hbl hbv.size
        clear hbv
        rw [hv]
        go_wp2_with fail
        go_ret
        exact ⟨by rw [HF.out]; rfl, HB.out⟩
      have HV := Lib.hid hv
      clear hv
      by_cases hw1 : x.w < 1
      · have HF := Lib.hid (show mOk M = false by rw [HK0.out, HG.out]; unfold mStep; rw [decide_eq_false (show ¬ 1 ≤ x.w by omega)]; simp)
        have hwd : decide (x.w < 1) = true := by simpa using hw1
        clear hw1
        go_wp2_with fail
        refine (refValid_below _ _).mono ?_
        rintro e w2 ⟨rfl, hbv⟩
        replace HB := Lib.hid (step_below HB.out hbv)
        replace hcw := (hbv.cell (p := ⟨b, o + j * 19 + 18, none⟩) hbl).trans hcw
        replace hbl := Nat.lt_of_lt_of_le hbl hbv.size
        clear hbv
        rw [HV.out]
        go_wp2_with fail
        go_ret
        exact ⟨by rw [HF.out]; rfl, HB.out⟩
      have hwd : decide (x.w < 1) = false := by simpa using hw1
      by_cases hw2 : 16 < x.w
      · have HF := Lib.hid (show mOk M = false by rw [HK0.out, HG.out]; unfold mStep; rw [decide_eq_false (show ¬ x.w ≤ 16 by omega)]; simp)
        have hwd2 : decide (16 < x.w) = true := by simpa using hw2
        clear hw1 hw2
        go_wp2_with fail
        refine (refValid_below _ _).mono ?_
        rintro e w2 ⟨rfl, hbv⟩
        replace HB := Lib.hid (step_below HB.out hbv)
        replace hcw := (hbv.cell (p := ⟨b, o + j * 19 + 18, none⟩) hbl).trans hcw
        replace hbl := Nat.lt_of_lt_of_le hbl hbv.size
        clear hbv
        rw [HV.out]
        go_wp2_with fail
        go_ret
        exact ⟨by rw [HF.out]; rfl, HB.out⟩
      have hwd2 : decide (16 < x.w) = false := by simpa using hw2
      have HW := Lib.hid (show 1 ≤ x.w ∧ x.w ≤ 16 by omega)
      clear hw1 hw2
      go_wp2_with fail
      refine (refValid_below _ _).mono ?_
      rintro e w2 ⟨rfl, hbv⟩
      replace HB := Lib.hid (step_below HB.out hbv)
      replace hcw := (hbv.cell (p := ⟨b, o + j * 19 + 18, none⟩) hbl).trans hcw
      replace hbl := Nat.lt_of_lt_of_le hbl hbv.size
      clear hbv
      rw [HV.out]
      go_wp2_with fail
      clear hwd hwd2 hcw ha hao
      go_loopw [4] (fun s4 wx => ∃ k : Nat, s4 = .int .i64 (k : Nat) ∧ k ≤ j ∧ (∀ z ∈ M.take k, z.d ≠ x.d) ∧ Below w2.heap.size w2 wx) (fun s4 _ => j - (intOf s4).toNat)
      case atStart => exact ⟨0, rfl, Nat.zero_le _, by simp, Below.refl _ _⟩
      case round =>
        clear ha2 hao2
        obtain ⟨k, rfl, hkj, hz, hb2⟩ := hrel
        have HZ := Lib.hid hz
        have HB2 := Lib.hid (step_below HB.out hb2)
        have HBI := Lib.hid hb2
        have hbl2 : b < wr.heap.size := Nat.lt_of_lt_of_le hbl hb2.size
        clear hz hb2
        by_cases hkl : k < j
        · have hkz : (k : Int) < (j : Int) := by omega
          have hkm : (k : Int) < (nm : Int) := by omega
          obtain ⟨y, hy⟩ : ∃ y, M[k]? = some y := ⟨_, List.getElem?_eq_getElem (by rw [HL.out]; omega)⟩
          have HY := Lib.hid hy
          obtain ⟨b1, o1, hab1, _, h1a, h1o⟩ := (HM.out.below HB2.out).dip hy
          obtain ⟨b2, o2, hab2, _, h2a, h2o⟩ := (HM.out.below HB2.out).dip HX.out
          simp only [Option.some.injEq, Addr.mk.injEq, and_true] at hab1 hab2
          obtain ⟨rfl, rfl⟩ := hab1
          obtain ⟨rfl, rfl⟩ := hab2
          clear hy
          by_cases hyx : y.d = x.d
          · have hdd : decide (y.d = x.d) = true := by simpa using hyx
            have HF := Lib.hid (show mOk M = false by
              rw [HK0.out, HG.out]
              unfold mStep
              rw [decide_eq_true (show x.d ∈ (M.take j).map (·.d) from by
                rw [← hyx]
                exact List.mem_map.2 ⟨y, List.mem_take_iff_getElem.2 ⟨k, by have := HL.out; omega, (List.getElem?_eq_some_iff.1 HY.out).2⟩, rfl⟩)]
              simp)
            clear hyx
            go_wp2_with fail
            refine region_sq (fun _ => False) [(0, true), (1, true), (2, true), (3, true), (4, true), (5, true), (6, true), (7, true), (8, true), (9, true), (10, true)] (by kernel_rfl) (by kernel_rfl) (fun _ _ d _ _ h => by cases d <;> exact h) ?_
            repeat (first
              | (refine sq_yes rfl (by rfl) (fun w' hM => by ((try replace hM := hM.of_drew); obtain ⟨hR1, hR2, hR3⟩ := hM.rules; have hA := hM.agg; obtain ⟨hA1, hA2⟩ := hA; clear hM; go_simp; with_reducible rfl)) ?_; simp only [Act.put, List.setIfInBounds_toArray, List.set_cons_zero, List.set_cons_succ])
              | (refine sq_no rfl (by rfl) ?_; simp only [Act.put, List.setIfInBounds_toArray, List.set_cons_zero, List.set_cons_succ]))
            refine sq_end ?_
            go_wp2_with fail
            go_ret
            exact ⟨by rw [HF.out]; rfl, HB2.out.drew⟩
          · have hdd : decide (y.d = x.d) = false := by simpa using hyx
            have HYX := Lib.hid hyx
            clear hyx
            go_wp2_with fail
            refine region_sq (fun _ => False) [(0, true), (1, true), (2, true), (3, true), (4, true), (5, true), (6, true), (7, true), (8, true), (9, true), (10, true)] (by kernel_rfl) (by kernel_rfl) (fun _ _ d _ _ h => by cases d <;> exact h) ?_
            repeat (first
              | (refine sq_yes rfl (by rfl) (fun w' hM => by ((try replace hM := hM.of_drew); obtain ⟨hR1, hR2, hR3⟩ := hM.rules; have hA := hM.agg; obtain ⟨hA1, hA2⟩ := hA; clear hM; go_simp; with_reducible rfl)) ?_; simp only [Act.put, List.setIfInBounds_toArray, List.set_cons_zero, List.set_cons_succ])
              | (refine sq_no rfl (by rfl) ?_; simp only [Act.put, List.setIfInBounds_toArray, List.set_cons_zero, List.set_cons_succ]))
            refine sq_end ?_
            go_wp2_with fail
            go_roundw
            case rel => exact ⟨k + 1, by go_num, by omega, fun z hz => by
              rw [List.take_add_one, HY.out] at hz
              rcases List.mem_append.1 hz with hz | hz
              · exact HZ.out z hz
              · simp only [Option.toList_some, List.mem_singleton] at hz
                rw [hz]; exact HYX.out, HBI.out.drew⟩
            case measure => simp [intOf] <;> omega
        · have hkz : ¬ (k : Int) < (j : Int) := by omega
          have HN := Lib.hid (show mGo [] M = mGo ((M.take (j + 1)).map (·.d)) (M.drop (j + 1)) by
            rw [HG.out]
            unfold mStep
            rw [HV.out, decide_eq_false (show ¬ x.d ∈ (M.take j).map (·.d) from fun hm => by
              obtain ⟨z, hz, hze⟩ := List.mem_map.1 hm
              rw [show j = k by omega] at hz
              exact HZ.out z hz hze), decide_eq_true HW.out.1, decide_eq_true HW.out.2]
            simp)
          clear hkl hkj
          go_wp2_with fail
          go_roundw
          case rel => exact ⟨j + 1, by go_num, by omega, HN.out, HB2.out⟩
          case measure => simp [intOf] <;> omega
    · have hltz : ¬ (j : Int) < (nm : Int) := by omega
      have HE := Lib.hid (show mOk M = decide (nm ≤ 32) by
        rw [HK0.out, HK.out, List.drop_of_length_le (by rw [HL.out]; omega), mGo, Bool.and_true])
      have hdz : decide ((nm : Int) ≤ 32) = decide (nm ≤ 32) := by rw [decide_eq_decide]; omega
      have HDZ := Lib.hid hdz
      clear hdz
      go_wp2_with fail
      go_ret
      exact ⟨by rw [HE.out, ← HDZ.out]; rfl, HB.out⟩
end Go.Proofs.Ythfgccibiajneaa
