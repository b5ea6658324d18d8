/-
  The document's pool: Live, Reserve.
-/
import Derived.Test.YthfgccibiajneaaPoRfPoolQ
namespace Go.Proofs.Ythfgccibiajneaa
open Go.RowKit Go.Shelf
variable {w w' w0 : World} {B p t : Nat} {c : Cf} {rs : List RV} {now last : Nat} {mv : Value} {M : List Mb}
theorem Rp.bel (h : Rp w B p t c rs now last mv M) (hB : w0.heap.size ≤ B) (hb : Below w0.heap.size w0 w) (hm : Md p t w w') : Below w0.heap.size w0 w' :=
  hb.trans (mod_below hm hb.size (fun i hi => by
    rcases hi with rfl | rfl
    · exact Nat.le_trans hB h.bp
    · exact Nat.le_trans hB h.bt))
theorem Rp.at0 (h : Rp w B p t c rs now last mv M) {i : Nat} {v : RV} (hv : rs[i]? = some v) : w.cell? ⟨t, i * 4, none⟩ = some (.bool v.lv) := by
  obtain ⟨b, o, hbo, hlt, hc⟩ := (h.arr.rd RV.len).1.2 (by have := (List.getElem?_eq_some_iff.1 hv).1; omega)
  simp only [Option.some.injEq, Addr.mk.injEq, and_true] at hbo
  obtain ⟨rfl, rfl⟩ := hbo
  have h0 := hc i v hv 0 (by omega)
  simp only [Nat.zero_add, Nat.add_zero, RV.l, List.getElem?_cons_zero] at h0
  exact h0
theorem Rp.slotsCell (h : Rp w B p t c rs now last mv M) : w.cell? ⟨p, 5, none⟩ = some (.int .i64 c.slots) := by
  rw [h.obj.cell, rpc_lo _ _ _ _ _ _ (by omega)]
  exact cl_head c 5 (by omega)
set_option maxRecDepth 100000 in
set_option maxHeartbeats 4000000 in
/-- Live: the list. -/
theorem rlives_any (h : Rp w B p t c rs now last mv M) : Calls Try.prog 59 #[.pointer (some ⟨p, 0, none⟩)] w fun e w' => ∃ v, e = .returned v ∧ Sl 1 ei 3 w' w.heap.size v ((liveTo (rvs rs) now rs.length).map fun z : Nat => (z : Int)) ∧ Below w.heap.size w w' := by
  have H := Lib.hid h
  have hbig := h.big
  obtain ⟨n, hn⟩ : ∃ n, n = rs.length := ⟨_, rfl⟩
  have HN := Lib.hid hn
  rw [← hn] at hbig ⊢
  clear h hn
  go_enter Try.func59, Try.ntmps59
  go_wp2_with fail
  go_loopw [3, 4] (fun s3 s4 wx => ∃ j : Nat, s4 = .int .i64 (j : Nat) ∧ j ≤ n ∧ Sl 1 ei 3 wx w.heap.size s3 ((liveTo (rvs rs) now j).map fun z : Nat => (z : Int)) ∧ Below w.heap.size w wx) (fun _ s4 _ => n - (intOf s4).toNat)
  case atStart => exact ⟨0, rfl, Nat.zero_le _, Sl.nil _ _ _ _ _, Below.refl _ _⟩
  case round =>
    obtain ⟨j, rfl, hj, hs, hb⟩ := hrel
    have HS := Lib.hid hs
    have HB := Lib.hid hb
    clear hs hb
    have HP := Lib.hid (H.out.below HB.out)
    obtain ⟨c48, -, -, -, hl⟩ := HP.out.cells
    rw [← HN.out] at c48
    by_cases hlt : j < n
    · have hltz : (j : Int) < (n : Int) := by omega
      go_wp2_with fail
      refine (rlive_any HP.out j).mono ?_
      rintro e w1 ⟨rfl, rfl⟩
      cases hq : liveB (rvs rs) now (j : Int) with
      | false =>
        have HL := Lib.hid (liveTo_no hq)
        clear hq
        go_wp2_with fail
        go_roundw
        case rel => exact ⟨j + 1, by go_num, by omega, by rw [HL.out]; exact HS.out, HB.out⟩
        case measure => simp [intOf] <;> omega
      | true =>
        have HL := Lib.hid (liveTo_yes hq)
        have hol : ((liveTo (rvs rs) now j).map fun z : Nat => (z : Int)).length ≤ 4096 := by rw [List.length_map]; exact Nat.le_trans (liveTo_length _ _ _) (by omega)
        have hws := HB.out.size
        clear hq
        go_wp2_with (at_builtin; refine wpList_sl_app1 (y := (j : Int)) rfl ei_len ei_one slI infoI rfl (by decide) HS.out rfl (by unfold maxLen; omega) (by omega) hws rfl rfl rfl rfl ?_; intro v' W5 hs5 hm5 ho5; have HS5 := Lib.hid hs5; have HM5 := Lib.hid hm5; clear hs5 hm5 ho5)
        have HB5 := Lib.hid (HB.out.trans (mod_below HM5.out HB.out.size (fun g hg => (HS.out.ge hg).1)))
        go_roundw
        case rel => exact ⟨j + 1, by go_num, by omega, by rw [HL.out, List.map_append]; exact HS5.out, HB5.out⟩
        case measure => simp [intOf] <;> omega
    · have hltz : ¬ (j : Int) < (n : Int) := by omega
      obtain rfl : j = n := by omega
      go_wp2_with fail
      go_ret
      exact ⟨_, rfl, HS.out, HB.out⟩
set_option maxRecDepth 100000 in
set_option maxHeartbeats 4000000 in
theorem rreserve_any (am : Option Addr) (nm cm B2 n : Nat) (M2 : List Mb) (xl : RV) (h : Rp w B p t c rs now last mv M) (hM : Sl 19 Mb.l 95 w B2 (.slice am nm cm) M2) (hok : mOk M2 = true) (hn : c.slots = n) (h1 : 1 ≤ n) (h2 : n ≤ 64) (hx : rs[last]? = some xl) (hS : xl.S.length = 0 ∨ xl.S.length = n) :
    Calls Try.prog 55 #[.pointer (some ⟨p, 0, none⟩), .slice am nm cm] w fun e w' => ∃ v, v ≤ rs.length ∧ (∀ i : Nat, i < v → liveB (rvs rs) now i = true) ∧
      ((v = rs.length ∧ e = .returned (.tuple #[.int .i64 0, .int .i64 3]) ∧ Below w.heap.size w w') ∨
       (v < rs.length ∧ liveB (rvs rs) now v = false ∧ e = .returned (.tuple #[.int .i64 (v : Nat), .int .i64 0]) ∧ ∃ mv' sv', Rp w' B p t c (rs.set v ⟨true, true, 0, sv', fillR xl.S M2 n⟩) now v mv' M2 ∧ Md p t w w')) := by
  have H := Lib.hid h
  have HM := Lib.hid hM
  have HOK := Lib.hid hok
  have HSL := Lib.hid hS
  have HN := Lib.hid hn
  have HX := Lib.hid hx
  have HLE := Lib.hid (show nm ≤ 32 by have := (mOk_w hok).1; have := (hM.rd Mb.len).2.1; omega)
  clear h hM hok hS hn hx
  go_enter Try.func55, Try.ntmps55
  go_wp2_with fail
  refine (rmembers_any am nm cm M2 _ (HM.out.rd Mb.len).1 (by have := HLE.out; omega)).mono ?_
  rintro e w1 ⟨rfl, hb⟩
  rw [HOK.out]
  replace H := Lib.hid (H.out.below hb)
  replace HM := Lib.hid (HM.out.below hb)
  have HB := Lib.hid hb
  clear hb
  go_wp2_with fail
  go_loopw [6, 7, 8] (fun s6 _ _ wx => ∃ v : Nat, s6 = .int .i64 (v : Nat) ∧ v ≤ rs.length ∧ (∀ i : Nat, i < v → liveB (rvs rs) now i = true) ∧ wx = w1) (fun s6 _ _ _ => rs.length - (intOf s6).toNat)
  case atStart => exact ⟨0, rfl, Nat.zero_le _, fun i hi => absurd hi (by omega), rfl⟩
  case round =>
    obtain ⟨v, rfl, hv, ha, hwx⟩ := hrel
    obtain rfl := hwx.symm
    clear hwx
    have HA := Lib.hid ha
    clear ha
    obtain ⟨nv, hnv⟩ : ∃ m, m = rs.length := ⟨_, rfl⟩
    rw [← hnv] at hv ⊢
    have HNV := Lib.hid hnv
    have hvb : nv ≤ 4096 := by rw [hnv]; exact H.out.big
    clear hnv
    obtain ⟨c48, -, c50, -, hl⟩ := H.out.cells
    rw [← HNV.out] at c48
    by_cases hlt : v < nv
    · have hvz : (v : Int) < (nv : Int) := by omega
      have hvl : v < rs.length := by have := HNV.out; omega
      have HVL := Lib.hid hvl
      clear hv hvl
      cases hq : liveB (rvs rs) now (v : Int) with
      | true =>
        have HQ := Lib.hid hq
        clear hq
        go_wp2_with fail
        refine (rlive_any H.out v).mono ?_
        rintro e w2 ⟨rfl, rfl⟩
        rw [HQ.out]
        go_wp2_with fail
        go_roundw
        case rel => exact ⟨v + 1, by go_num, by have := HVL.out; omega, fun i hi => by
          rcases Nat.lt_or_ge i v with h | h
          · exact HA.out i h
          · rw [show i = v by omega]; exact HQ.out, trivial⟩
        case measure => simp [intOf] <;> omega
      | false =>
        have HQ := Lib.hid hq
        clear hq
        have hlz : (last : Int) < (nv : Int) := by have := H.out.ltl; have := HNV.out; omega
        obtain ⟨_, _, c3, htl⟩ := H.out.at HX.out
        obtain ⟨ao, co, hsv⟩ := (H.out.vers xl (List.mem_of_getElem? HX.out)).form
        have HXS := Lib.hid (H.out.vers xl (List.mem_of_getElem? HX.out))
        obtain ⟨no, hno⟩ : ∃ m, m = xl.S.length := ⟨_, rfl⟩
        rw [← hno] at hsv
        rw [hsv] at c3 HXS
        have HNO := Lib.hid hno
        have c5 := H.out.slotsCell
        rw [HN.out] at c5
        clear hno hsv
        go_wp2_with fail
        refine (rlive_any H.out v).mono ?_
        rintro e w2 ⟨rfl, rfl⟩
        rw [HQ.out]
        go_wp2_with fail
        refine region_sq (fun _ => False) [(0, true), (1, true), (2, true), (3, true), (4, true), (5, true), (6, true), (7, true), (8, true), (9, true), (10, true), (11, true), (12, true), (13, true), (14, true), (15, true), (16, true), (17, false), (18, true), (19, true), (20, true), (21, true), (22, true)] (by kernel_rfl) (by kernel_rfl) (fun _ _ d _ _ h => by cases d <;> exact h) ?_
        repeat (first
          | (refine sq_yes rfl (by rfl) (fun w' hM => by ((try replace hM := hM.of_drew); obtain ⟨hR1, hR2, hR3⟩ := hM.rules; have hA := hM.agg; obtain ⟨hA1, hA2⟩ := hA; clear hM; go_simp; with_reducible rfl)) ?_; simp only [Act.put, List.setIfInBounds_toArray, List.set_cons_zero, List.set_cons_succ])
          | (refine sq_no rfl (by rfl) ?_; simp only [Act.put, List.setIfInBounds_toArray, List.set_cons_zero, List.set_cons_succ]))
        refine sq_do_yes rfl (by rfl) (fun K hK => ?_)
        go_wp2_with fail
        refine (rfill_any ao am no co nm cm n xl.S M2 _ (HXS.out.drew.rd Dp.l_length).1 (HM.out.drew.rd Mb.len).1 HOK.out h1 h2 (by have := HSL.out; have := HNO.out; omega)).mono ?_
        rintro e w3 ⟨svn, rfl, hs3, hb3⟩
        have HB3 := Lib.hid hb3
        have HS3 := Lib.hid (hs3.base (show B ≤ w2.drew.heap.size from H.out.le))
        clear hs3
        go_wp2_with fail
        refine ⟨Mod.of_below hb3, ?_⟩
        clear hb3
        repeat (first
          | (refine sq_yes rfl (by rfl) (fun w' hM => by ((try replace hM := hM.of_drew); obtain ⟨hR1, hR2, hR3⟩ := hM.rules; have hA := hM.agg; obtain ⟨hA1, hA2⟩ := hA; clear hM; go_simp; with_reducible rfl)) ?_; simp only [Act.put, List.setIfInBounds_toArray, List.set_cons_zero, List.set_cons_succ])
          | (refine sq_no rfl (by rfl) ?_; simp only [Act.put, List.setIfInBounds_toArray, List.set_cons_zero, List.set_cons_succ]))
        refine sq_end ?_
        replace H := Lib.hid (H.out.drew.below HB3.out)
        replace HM := Lib.hid (HM.out.drew.below HB3.out)
        replace HB := Lib.hid (step_below HB.out.drew HB3.out)
        clear c48 c50 hl c5 c3 htl hlz HXS
        obtain ⟨an, cn, hsn⟩ := HS3.out.form
        obtain ⟨ln, hln⟩ : ∃ m, m = (fillR xl.S M2 n).length := ⟨_, rfl⟩
        rw [← hln] at hsn
        subst hsn
        clear hln
        obtain ⟨xo, hxo⟩ : ∃ x, rs[v]? = some x := ⟨_, List.getElem?_eq_getElem HVL.out⟩
        have c0 := H.out.at0 hxo
        obtain ⟨c1, c2, c3, htl⟩ := H.out.at hxo
        have H4 := Lib.hid (H.out.setWhole HVL.out ⟨true, true, 0, .slice an ln cn, fillR xl.S M2 n⟩ HS3.out)
        simp only [RV.l, Int.natCast_zero] at H4
        have HM4 := Lib.hid (Mod.setCells (M := fun g => g = p ∨ g = t) (g := t) (.inr rfl) [.bool true, .bool true, .int .i64 0, .slice an ln cn] (v * 4) w3)
        have HMM := Lib.hid (HM.out.setCellsNe (t := t) (by obtain ⟨cs, hc⟩ := H.out.tAt; exact HM.out.ne hc (by decide)) (v * 4) [.bool true, .bool true, .int .i64 0, .slice an ln cn])
        have f0 := (H.out.frz (v * 4)).2
        have f1 := (H.out.frz (v * 4 + 1)).2
        have f2 := (H.out.frz (v * 4 + 2)).2
        have f3 := (H.out.frz (v * 4 + 3)).2
        obtain ⟨c48, -, -, -, hl⟩ := H.out.cells
        rw [← HNV.out] at c48
        clear hxo
        go_upto_region 9 with fail
        rw [show (((w3.setCell ⟨t, v * 4, none⟩ (.bool true)).setCell ⟨t, v * 4 + 1, none⟩ (.bool true)).setCell ⟨t, v * 4 + 2, none⟩ (.int .i64 0)).setCell ⟨t, v * 4 + 3, none⟩ (.slice an ln cn) = w3.setCells t (v * 4) [.bool true, .bool true, .int .i64 0, .slice an ln cn] from rfl]
        clear c0 c1 c2 c3 f0 f1 f2 f3 c48 hl htl
        generalize w3.setCells t (v * 4) [.bool true, .bool true, .int .i64 0, .slice an ln cn] = W4 at *
        have H5 := Lib.hid (H4.out.setO (j := 50) (last' := v) (rpc_last _ _ _ _ _ _) H4.out.ml H4.out.lt (by rw [List.length_set]; exact HVL.out))
        have HM5 := Lib.hid (HM4.out.trans (Md.ap p t 50 (.int .i64 (v : Nat)) W4))
        have HMM5 := Lib.hid (HMM.out.far (p := ⟨p, 50, none⟩) (HMM.out.ne H4.out.obj (by decide)) (.int .i64 (v : Nat)))
        obtain ⟨-, -, c50, -, hl⟩ := H4.out.cells
        have f1 := (H4.out.frz 50).1
        go_upto_region 10 with fail
        clear c50 hl f1 H4 HMM
        generalize W4.setCell ⟨p, 50, none⟩ (.int .i64 (v : Nat)) = W5 at *
        have hB5 := H5.out.le
        obtain ⟨ge, hge⟩ : ∃ ge, ge = W5.heap.size := ⟨_, rfl⟩
        have HRD := Lib.hid ((HMM5.out.rd Mb.len).1.alloc (.cells #[] 95))
        obtain ⟨-, -, -, c51, hl⟩ := H5.out.cells
        have f51 := (H5.out.frz 51).1
        go_wp2_with (at_builtin; refine wpList_sl_app (B := B) (L := []) rfl Mb.len ml_one slMb infoMb3 (mc_size _) (by decide) (Sl.empty 19 Mb.l 95 W5 _ rfl hB5) HRD.out (by have := HLE.out; simp [maxLen]; omega) (by have := HLE.out; simp; omega) (by simp; omega) rfl rfl rfl ?_; intro v6 W6 hs6 hm6 _; have HS6 := Lib.hid hs6; have HB6 := Lib.hid (show Below W5.heap.size W5 W6 from ((Below.refl _ W5).alloc (Nat.le_refl _) _).trans (mod_below hm6 (by simp) (fun g hg => by simp only [Value.ownBlock, Option.some.injEq] at hg; omega))); obtain ⟨a6, c6, hv6⟩ := hs6.form; obtain ⟨l6, hl6⟩ : ∃ m, m = ([] ++ M2 : List Mb).length := ⟨_, rfl⟩; rw [← hl6] at hv6; subst hv6; clear hs6 hm6 hl6; have c51 := (HB6.out.cell (p := ⟨p, 51, none⟩) hl).trans c51; have hl := Nat.lt_of_lt_of_le hl HB6.out.size; have f51 := ((H5.out.below HB6.out).frz 51).1)
        go_ret2
        have H6 := H5.out.below HB6.out
        refine ⟨v, by have := HVL.out; omega, HA.out, .inr ⟨HVL.out, HQ.out, rfl, .slice a6 l6 c6, .slice an ln cn, ?_, ?_⟩⟩
        · exact H6.setO (rpc_m _ _ _ _ _ _) HS6.out H6.lt H6.ltl
        · exact ((show Md p t w w3 from Mod.of_below HB.out).trans HM5.out).trans ((Mod.of_below HB6.out).trans (Md.ap _ _ _ _ _))
    · have hvz : (nv : Int) ≤ (v : Int) := by omega
      have hvz2 : ¬ (v : Int) < (nv : Int) := by omega
      have HV := Lib.hid (show v = nv by omega)
      clear hlt hv
      go_wp2_with fail
      go_ret2
      exact ⟨v, by have := HV.out; have := HNV.out; omega, HA.out, .inl ⟨HV.out.trans HNV.out, rfl, HB.out⟩⟩
end Go.Proofs.Ythfgccibiajneaa
