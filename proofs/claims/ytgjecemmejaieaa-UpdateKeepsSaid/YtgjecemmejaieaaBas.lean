/-
  Texts in one, each behind those that it needs: PoRfShare.
-/
import Derived.Test.YtgjecemmejaieaaBar
/-
  The document's Shares.
-/
namespace Go.Proofs.Ytgjecemmejaieaa
open Go.RowKit Go.Shelf
theorem foldl_max_ge : ∀ (r : List Int) (x : Int), x ≤ r.foldl max x ∧ ∀ y ∈ r, y ≤ r.foldl max x
  | [], x => by simp
  | z :: r, x => by
    rw [List.foldl_cons]
    have ⟨h1, h2⟩ := foldl_max_ge r (max x z)
    refine ⟨by omega, fun y hy => ?_⟩
    rcases List.mem_cons.1 hy with rfl | hy
    · omega
    · exact h2 y hy
theorem le_maxL : ∀ (l : List Int), ∀ x ∈ l, x ≤ maxL l
  | [], _, h => by simp at h
  | z :: r, x, h => by
    have ⟨h1, h2⟩ := foldl_max_ge r z
    rcases List.mem_cons.1 h with rfl | h
    · exact h1
    · exact h2 x h
theorem best_idx {R : List Int} {best : Nat} (hb : best < R.length) (h1 : ∀ j, j < R.length → R.getD j 0 ≤ R.getD best 0) (h2 : ∀ j, j < best → R.getD j 0 < R.getD best 0) : R.idxOf (maxL R) = best := by
  have hg : ∀ j (h : j < R.length), R.getD j 0 = R[j] := fun j h => by rw [List.getD_eq_getElem?_getD, List.getElem?_eq_getElem h]; rfl
  have hm : maxL R = R[best] := by
    apply Int.le_antisymm
    · obtain ⟨k, hk, e⟩ := List.getElem_of_mem (maxL_mem (l := R) (by omega))
      have := h1 k hk
      rw [hg k hk, hg best hb, e] at this
      exact this
    · exact le_maxL R _ (List.getElem_mem hb)
  unfold List.idxOf
  rw [List.findIdx_eq hb]
  refine ⟨by simp [hm], fun j hj => ?_⟩
  have := h2 j hj
  rw [hg j (by omega), hg best hb] at this
  rw [hm]
  simp
  omega
set_option maxRecDepth 100000 in
set_option maxHeartbeats 8000000 in
theorem rshares_any (a : Option Addr) (n0 c0 : Nat) (L : List Mb) (n : Nat) (w : World) (h : Rd 19 Mb.l w a n0 L) (hok : mOk L = true) (h0 : 0 < n0) (hn : n ≤ 64) :
    Calls Try.prog 62 #[.slice a n0 c0, .int .i64 n] w fun e w' => ∃ v, e = .returned v ∧ Sl 1 ei 3 w' w.heap.size v (sharesOf L n) ∧ Below w.heap.size w w' := by
  have HR := Lib.hid h
  have HL := Lib.hid h.1
  obtain ⟨hl32, hw⟩ := mOk_w hok
  have HW := Lib.hid hw
  have HSB := Lib.hid (sumW_bounds L hw)
  have HCK := Lib.hid hok
  have hlen : L.length = n0 := h.1
  rw [hlen] at hl32
  have d1 : decide ((n : Int) < 0) = false := by simp
  have d2 : decide (64 < (n : Int)) = false := by simp; omega
  clear h hok hw hlen
  go_enter Try.func62, Try.ntmps62
  go_wp2_with fail
  refine (rmembers_any a n0 c0 L _ HR.out (by omega)).mono ?_
  rintro e w1 ⟨rfl, hb⟩
  rw [HCK.out]
  have HB := Lib.hid hb
  clear hb
  go_wp2_with fail
  clear d1 d2
  go_loopw [5, 6] (fun s5 s6 wr => ∃ j : Nat, s6 = .int .i64 (j : Nat) ∧ j ≤ n0 ∧ s5 = .int .i64 (sumW (L.take j)) ∧ wr = w1) (fun _ s6 _ => n0 - (intOf s6).toNat)
  case atStart => exact ⟨0, rfl, Nat.zero_le _, rfl, rfl⟩
  case round =>
    obtain ⟨j, rfl, hj, rfl, hwr⟩ := hrel
    obtain rfl := hwr.symm
    clear hwr
    by_cases hlt : j < n0
    · have hltz : (j : Int) < (n0 : Int) := by omega
      obtain ⟨x, hx⟩ : ∃ x, L[j]? = some x := ⟨_, List.getElem?_eq_getElem (by have := HL.out; omega)⟩
      have hxw := HW.out x (List.mem_of_getElem? hx)
      have HSJ := Lib.hid (show sumW (L.take (j + 1)) = sumW (L.take j) + x.w by unfold sumW; rw [List.take_add_one, hx, List.map_append, List.sum_append]; simp)
      have hsb := sumW_bounds (L.take j) (fun y hy => HW.out y (List.mem_of_mem_take hy))
      have htl : (L.take j).length = j := by rw [List.length_take]; have := HL.out; omega
      rw [htl] at hsb
      obtain ⟨b, o, rfl, hbl, _, hcw, _⟩ := (HR.out.below HB.out).adrw hx
      generalize sumW (L.take j) = sj at *
      clear hx htl
      go_wp2_with fail
      go_roundw
      case rel => exact ⟨j + 1, by simp, by omega, by rw [HSJ.out], trivial⟩
      case measure => simp [intOf] <;> omega
    · have hltz : ¬ (j : Int) < (n0 : Int) := by omega
      have hjn : j = n0 := by omega
      have htk : L.take j = L := List.take_of_length_le (by have := HL.out; omega)
      rw [htk]
      obtain ⟨W, hW⟩ : ∃ W, W = sumW L := ⟨_, rfl⟩
      rw [← hW]
      have HWW := Lib.hid hW
      have hWb : 1 ≤ W ∧ W ≤ 512 := by have := HSB.out; have := HL.out; omega
      have HFB := Lib.hid (show ∀ y ∈ floW L n W, 0 ≤ y ∧ y ≤ 1024 from fun y hy => by
        obtain ⟨x, hx, rfl⟩ := List.mem_map.1 hy
        have hxw := HW.out x hx
        have h0 : 0 ≤ (n : Int) * x.w := Int.mul_nonneg (by omega) (by omega)
        have h1 : (n : Int) * x.w ≤ 64 * 16 := Int.mul_le_mul (by omega) hxw.2 (by omega) (by omega)
        exact ⟨Int.ediv_nonneg h0 (by omega), Int.le_trans (Int.ediv_le_self _ h0) (by omega)⟩)
      clear htk hW hj hjn
      go_wp2_with fail
      clear hlt hltz
      go_loopw [7, 8, 9, 10] (fun s7 s8 s9 s10 wx => ∃ j : Nat, s10 = .int .i64 (j : Nat) ∧ j ≤ n0 ∧ s9 = .int .i64 ((n : Int) - ((floW L n W).take j).sum) ∧ Sl 1 ei 3 wx w.heap.size s7 ((floW L n W).take j) ∧ Sl 1 ei 3 wx w.heap.size s8 ((remW L n W).take j) ∧ (∀ g, s7.ownBlock = some g → s8.ownBlock ≠ some g) ∧ Below w.heap.size w wx) (fun _ _ _ s10 _ => n0 - (intOf s10).toNat)
      case atStart => exact ⟨0, rfl, Nat.zero_le _, by simp, Sl.nil _ _ _ _ _, Sl.nil _ _ _ _ _, (fun g hg => by cases hg), HB.out⟩
      case round =>
        clear HB
        obtain ⟨j, rfl, hj, rfl, hsl, hre, hap, hb⟩ := hrel
        have HSL := Lib.hid hsl
        have HRE := Lib.hid hre
        have HAP := Lib.hid hap
        have HB := Lib.hid hb
        clear hsl hre hb hap
        by_cases hlt : j < n0
        · have hltz : (j : Int) < (n0 : Int) := by omega
          obtain ⟨x, hx⟩ : ∃ x, L[j]? = some x := ⟨_, List.getElem?_eq_getElem (by have := HL.out; omega)⟩
          have HX := Lib.hid hx
          have hxw := HW.out x (List.mem_of_getElem? hx)
          obtain ⟨b, o, rfl, hbl, _, hcw, _⟩ := (HR.out.below HB.out).adrw hx
          have hbw : b < w.heap.size := by
            obtain ⟨b', o', hab, hlt', _⟩ := HR.out.2 (by omega)
            simp only [Option.some.injEq, Addr.mk.injEq, and_true] at hab
            omega
          have HBW := Lib.hid hbw
          have hsj := sum_le ((floW L n W).take j) (fun y hy => HFB.out y (List.mem_of_mem_take hy))
          have hsl2 : ((floW L n W).take j).length ≤ 32 := by rw [List.length_take]; omega
          obtain ⟨S, hS⟩ : ∃ S, S = ((floW L n W).take j).sum := ⟨_, rfl⟩
          rw [← hS] at hsj ⊢
          have HSS := Lib.hid hS
          have hS1 : 0 ≤ S ∧ S ≤ 32768 := by omega
          clear hx hsj hsl2 hS hbw
          obtain ⟨pr, hpr⟩ : ∃ pr, pr = (n : Int) * x.w := ⟨_, rfl⟩
          have hp0 : 0 ≤ pr := by rw [hpr]; exact Int.mul_nonneg (by omega) (by omega)
          have hp1 : pr ≤ 64 * 16 := by rw [hpr]; exact Int.mul_le_mul (by omega) hxw.2 (by omega) (by omega)
          obtain ⟨qv, hqv⟩ : ∃ q, q = pr / W := ⟨_, rfl⟩
          obtain ⟨rv, hrv⟩ : ∃ q, q = pr % W := ⟨_, rfl⟩
          have hq0 : 0 ≤ qv := by rw [hqv]; exact Int.ediv_nonneg hp0 (by omega)
          have hq1 : qv ≤ 1024 := by rw [hqv]; exact Int.le_trans (Int.ediv_le_self _ hp0) (by omega)
          have hr0 : 0 ≤ rv := by rw [hrv]; exact Int.emod_nonneg _ (by omega)
          have hr1 : rv < W := by rw [hrv]; exact Int.emod_lt_of_pos _ (by omega)
          have hm1 : IntKind.i64.wrap ((n : Int) * x.w) = pr := by rw [← hpr, IntKind.wrap_i64]; omega
          have hm3 : Int.tdiv pr W = qv := by rw [hqv]; exact Int.tdiv_eq_ediv_of_nonneg hp0
          have hm4 : Int.tmod pr W = rv := by rw [hrv]; exact Int.tmod_eq_emod_of_nonneg hp0
          have hW0 : ¬ W = 0 := by omega
          have HP := Lib.hid (And.intro hpr (And.intro hqv hrv))
          clear hpr hqv hrv
          have hfl : ((floW L n W).take j).length ≤ 32 := by rw [List.length_take]; omega
          have hrl : ((remW L n W).take j).length ≤ 32 := by rw [List.length_take]; omega
          have hws := HB.out.size
          go_upto_region 14 with (at_builtin; refine wpList_sl_app1 (y := qv) rfl ei_len ei_one slI infoI rfl (by decide) HSL.out rfl (by unfold maxLen; omega) (by omega) hws rfl rfl rfl rfl ?_; intro v5 W5 hs5 hm5 ho5; have HS5 := Lib.hid hs5; have HM5 := Lib.hid hm5; have HO5 := Lib.hid ho5; clear hs5 hm5 ho5)
          have hge := fun g (hg : u7.ownBlock = some g) => (HSL.out.ge hg).1
          have hgr := fun g (hg : u8.ownBlock = some g) => (HRE.out.ge hg).2
          have HAP5 := Lib.hid (show ∀ g, v5.ownBlock = some g → u8.ownBlock ≠ some g from fun g hg => by
            rcases HO5.out with h | ⟨q, h, hq⟩
            · exact HAP.out g (by rw [← h]; exact hg)
            · intro h2
              have := hgr g h2
              rw [h] at hg
              simp only [Option.some.injEq] at hg
              omega)
          replace HRE := Lib.hid (HRE.out.mod HM5.out (fun g hg e => HAP.out g e hg))
          replace hcw := (HM5.out.cell (p := ⟨b, o + j * 19 + 18, none⟩) hbl (fun e => by have := hge b e; have := HBW.out; omega)).trans hcw
          replace hbl := Nat.lt_of_lt_of_le hbl HM5.out.size
          replace HB := Lib.hid (HB.out.trans (mod_below HM5.out HB.out.size hge))
          replace hws := HB.out.size
          have HTJ := Lib.hid (show (floW L n W).take j ++ [qv] = (floW L n W).take (j + 1) by
            rw [List.take_add_one]
            have : (floW L n W)[j]? = some qv := by simp only [floW, List.getElem?_map, HX.out, Option.map_some]; rw [HP.out.2.1, HP.out.1]
            rw [this]; rfl)
          rw [HTJ.out] at HS5
          have HTR := Lib.hid (show (remW L n W).take j ++ [rv] = (remW L n W).take (j + 1) by
            rw [List.take_add_one]
            have : (remW L n W)[j]? = some rv := by simp only [remW, List.getElem?_map, HX.out, Option.map_some]; rw [HP.out.2.2, HP.out.1]
            rw [this]; rfl)
          clear hge hgr HSL
          go_upto_region 15 with (at_builtin; refine wpList_sl_app1 (y := rv) rfl ei_len ei_one slI infoI rfl (by decide) HRE.out rfl (by unfold maxLen; omega) (by omega) hws rfl rfl rfl rfl ?_; intro v6 W6 hs6 hm6 ho6; have HS6 := Lib.hid hs6; have HM6 := Lib.hid hm6; have HO6 := Lib.hid ho6; clear hs6 hm6 ho6)
          rw [HTR.out] at HS6
          have HAP6 := Lib.hid (show ∀ g, v5.ownBlock = some g → v6.ownBlock ≠ some g from fun g hg h2 => by
            rcases HO6.out with h | ⟨q, h, hq⟩
            · exact HAP5.out g hg (by rw [← h]; exact h2)
            · have := (HS5.out.ge hg).2
              rw [h] at h2
              simp only [Option.some.injEq] at h2
              omega)
          have hge := fun g (hg : u8.ownBlock = some g) => (HRE.out.ge hg).1
          replace HS5 := Lib.hid (HS5.out.mod HM6.out (fun g hg e => HAP5.out g hg e))
          replace HB := Lib.hid (HB.out.trans (mod_below HM6.out HB.out.size hge))
          have hqi : ((floW L n W).take (j + 1))[j]? = some qv := by
            rw [← HTJ.out]
            have htl : ((floW L n W).take j).length = j := by rw [List.length_take]; have := HL.out; simp only [floW, List.length_map]; omega
            rw [List.getElem?_append_right (by omega), htl, Nat.sub_self]; rfl
          obtain ⟨av, cv, rfl⟩ := HS5.out.form
          have hlen1 : ((floW L n W).take (j + 1)).length = j + 1 := by rw [List.length_take]; have := HL.out; simp only [floW, List.length_map]; omega
          rw [hlen1] at HS5 HAP6 ⊢
          obtain ⟨g', hg', -, hnc', hB', hlt', hcq⟩ := HS5.out.int hqi
          subst hg'
          clear hfl hrl hge hqi hlen1 hcw hbl hws hm1 hm3 hm4
          go_wp2_with fail
          go_roundw
          case rel =>
            refine ⟨j + 1, by simp, by omega, ?_, HS5.out, HS6.out, HAP6.out, HB.out⟩
            rw [← HTJ.out, List.sum_append, ← HSS.out]
            simp only [List.sum_cons, List.sum_nil]
            congr 1; omega
          case measure => simp [intOf] <;> omega
        · have hltz : ¬ (j : Int) < (n0 : Int) := by omega
          have hjn2 : j = n0 := by omega
          have hfl : (floW L n W).length = n0 := by have := HL.out; simp only [floW, List.length_map]; omega
          have hrl : (remW L n W).length = n0 := by have := HL.out; simp only [remW, List.length_map]; omega
          rw [hjn2, List.take_of_length_le (by omega)] at HRE
          rw [hjn2, List.take_of_length_le (by omega)] at HSL
          rw [show (floW L n W).take j = floW L n W from List.take_of_length_le (by omega)]
          have hsum := floW_sum L n (by omega) (by rw [← HWW.out]; omega)
          rw [← HWW.out] at hsum
          have hs0 := (sum_le (floW L n W) HFB.out).1
          obtain ⟨k0, hk0⟩ : ∃ k : Nat, (n : Int) - (floW L n W).sum = k := ⟨((n : Int) - (floW L n W).sum).toNat, by omega⟩
          rw [hk0]
          have HSH := Lib.hid (show (shGo k0 (floW L n W, remW L n W)).1 = sharesOf L n by
            unfold sharesOf
            rw [← HWW.out]
            congr 2; omega)
          have hk64 : k0 ≤ 64 := by omega
          obtain ⟨ao, co, hao⟩ := HSL.out.form
          obtain ⟨ar, cr, har⟩ := HRE.out.form
          obtain ⟨y0, hy0⟩ : ∃ y, (floW L n W)[0]? = some y := ⟨_, List.getElem?_eq_getElem (by omega)⟩
          obtain ⟨y1, hy1⟩ : ∃ y, (remW L n W)[0]? = some y := ⟨_, List.getElem?_eq_getElem (by omega)⟩
          rw [hfl] at hao
          rw [hrl] at har
          subst hao
          subst har
          obtain ⟨go, rfl, -, -, hgo, -, -⟩ := HSL.out.int hy0
          obtain ⟨gr, rfl, -, -, hgr, -, -⟩ := HRE.out.int hy1
          have HF2 := Lib.hid hfl
          have HR2 := Lib.hid hrl
          have hne : ¬ go = gr := fun e => HAP.out go rfl (by rw [e]; rfl)
          have hn0z : (0 : Int) < (n0 : Int) := by omega
          have hn0d : decide (0 < n0) = true := by simpa using h0
          clear hfl hrl hsum hs0 hk0 hy0 hy1 hlt hj HAP
          go_wp2_with fail
          go_loopw [9, 11, 12] (fun s9 _ _ wx => ∃ (k : Nat) (S R : List Int), s9 = .int .i64 (k : Nat) ∧ k ≤ 64 ∧ S.length = n0 ∧ R.length = n0 ∧ (shGo k (S, R)).1 = sharesOf L n ∧ (∀ y ∈ S, 0 ≤ y ∧ y + k ≤ 2048) ∧ Sl 1 ei 3 wx w.heap.size (.slice (some ⟨go, 0, none⟩) n0 co) S ∧ Sl 1 ei 3 wx w.heap.size (.slice (some ⟨gr, 0, none⟩) n0 cr) R ∧ Below w.heap.size w wx) (fun s9 _ _ _ => (intOf s9).toNat)
          case atStart => exact ⟨k0, _, _, rfl, hk64, HF2.out, HR2.out, HSH.out, fun y hy => by have := HFB.out y hy; omega, HSL.out, HRE.out, HB.out⟩
          case round =>
            clear HSL HRE HB HSH HF2 HR2 hk64
            obtain ⟨k, S, R, rfl, hk, hsl, hrl, hsh, hb, hS, hR, hB⟩ := hrel
            have HS := Lib.hid hS
            have HRR := Lib.hid hR
            have HB := Lib.hid hB
            have HSH := Lib.hid hsh
            have HBN := Lib.hid hb
            have HLN := Lib.hid (And.intro hsl hrl)
            clear hS hR hB hsh hb
            by_cases hk0 : k = 0
            · subst hk0
              have hkz : ¬ (0 : Int) < ((0 : Nat) : Int) := by omega
              clear hsl hrl
              go_wp2_with fail
              go_ret
              refine ⟨_, rfl, ?_, HB.out⟩
              have := HSH.out
              rw [← this]
              exact HS.out
            · obtain ⟨q, hq⟩ : ∃ q, k = q + 1 := ⟨k - 1, by omega⟩
              have HQ := Lib.hid hq
              have hkz : (0 : Int) < (k : Int) := by omega
              clear hsl hrl hk0 hq
              go_wp2_with fail
              go_loopw [11, 12] (fun s11 s12 wx => ∃ i best : Nat, s12 = .int .i64 (i : Nat) ∧ s11 = .int .i64 (best : Nat) ∧ 1 ≤ i ∧ i ≤ n0 ∧ best < i ∧ (∀ j, j < i → R.getD j 0 ≤ R.getD best 0) ∧ (∀ j, j < best → R.getD j 0 < R.getD best 0) ∧ Below wr.heap.size wr wx) (fun _ s12 _ => n0 - (intOf s12).toNat)
              case atStart => exact ⟨1, 0, rfl, rfl, by omega, by omega, by omega, fun j hj => by rw [show j = 0 by omega]; exact Int.le_refl _, fun j hj => by omega, Below.refl _ _⟩
              case round =>
                obtain ⟨i, best, rfl, rfl, hi1, hi2, hbi, hmx, hmn, hbw⟩ := hrel
                have HMX := Lib.hid (And.intro hmx hmn)
                have HBW := Lib.hid hbw
                clear hmx hmn hbw
                by_cases hin : i < n0
                · have hiz : (i : Int) < (n0 : Int) := by omega
                  have hbz : (best : Int) < (n0 : Int) := by omega
                  obtain ⟨ri, hri⟩ : ∃ y, R[i]? = some y := ⟨_, List.getElem?_eq_getElem (by rw [HLN.out.2]; exact hin)⟩
                  obtain ⟨rb, hrb⟩ : ∃ y, R[best]? = some y := ⟨_, List.getElem?_eq_getElem (by rw [HLN.out.2]; omega)⟩
                  obtain ⟨g2, hg2, -, -, -, hl2, c2⟩ := (HRR.out.below HBW.out).int hri
                  obtain ⟨g3, hg3, -, -, -, _, c3⟩ := (HRR.out.below HBW.out).int hrb
                  obtain rfl : gr = g2 := by simpa using hg2
                  obtain rfl : gr = g3 := by simpa using hg3
                  have HRI := Lib.hid (And.intro (getD_of (d := 0) hri) (getD_of (d := 0) hrb))
                  clear hri hrb hg2 hg3
                  by_cases hgt : rb < ri
                  · have hgd : decide (rb < ri) = true := by simpa using hgt
                    have HGT := Lib.hid hgt
                    clear hgt
                    go_wp2_with fail
                    refine region_sq (fun _ => False) [(0, true), (1, true), (2, true), (3, true), (4, true), (5, true), (6, true), (7, true), (8, true)] (by kernel_rfl) (by kernel_rfl) (fun _ _ d _ _ h => by cases d <;> exact h) ?_
                    repeat (first
                      | (refine sq_yes rfl (by rfl) (fun w' hM => by ((try replace hM := hM.of_drew); obtain ⟨hR1, hR2, hR3⟩ := hM.rules; have hA := hM.agg; obtain ⟨hA1, hA2⟩ := hA; clear hM; go_simp; with_reducible rfl)) ?_; simp only [Act.put, List.setIfInBounds_toArray, List.set_cons_zero, List.set_cons_succ])
                      | (refine sq_no rfl (by rfl) ?_; simp only [Act.put, List.setIfInBounds_toArray, List.set_cons_zero, List.set_cons_succ]))
                    refine sq_end ?_
                    go_wp2_with fail
                    go_roundw
                    case rel => exact ⟨i + 1, i, by go_num, rfl, by omega, by omega, by omega, (fun j hj => by
                      rcases Nat.lt_or_ge j i with h | h
                      · have := HMX.out.1 j h; rw [HRI.out.2] at this; rw [HRI.out.1]; have := HGT.out; omega
                      · rw [show j = i by omega]; exact Int.le_refl _), (fun j hj => by
                      have := HMX.out.1 j (by omega); rw [HRI.out.2] at this; rw [HRI.out.1]; have := HGT.out; omega), HBW.out.drew⟩
                    case measure => simp [intOf] <;> omega
                  · have hgd : decide (rb < ri) = false := by simpa using hgt
                    have HGT := Lib.hid hgt
                    clear hgt
                    go_wp2_with fail
                    refine region_sq (fun _ => False) [(0, true), (1, true), (2, true), (3, true), (4, true), (5, true), (6, true), (7, true), (8, true)] (by kernel_rfl) (by kernel_rfl) (fun _ _ d _ _ h => by cases d <;> exact h) ?_
                    repeat (first
                      | (refine sq_yes rfl (by rfl) (fun w' hM => by ((try replace hM := hM.of_drew); obtain ⟨hR1, hR2, hR3⟩ := hM.rules; have hA := hM.agg; obtain ⟨hA1, hA2⟩ := hA; clear hM; go_simp; with_reducible rfl)) ?_; simp only [Act.put, List.setIfInBounds_toArray, List.set_cons_zero, List.set_cons_succ])
                      | (refine sq_no rfl (by rfl) ?_; simp only [Act.put, List.setIfInBounds_toArray, List.set_cons_zero, List.set_cons_succ]))
                    refine sq_end ?_
                    go_wp2_with fail
                    go_roundw
                    case rel => exact ⟨i + 1, best, by go_num, rfl, by omega, by omega, by omega, (fun j hj => by
                      rcases Nat.lt_or_ge j i with h | h
                      · exact HMX.out.1 j h
                      · rw [show j = i by omega, HRI.out.1, HRI.out.2]; have := HGT.out; omega), HMX.out.2, HBW.out.drew⟩
                    case measure => simp [intOf] <;> omega
                · have hiz : ¬ (i : Int) < (n0 : Int) := by omega
                  have HIX := Lib.hid (best_idx (R := R) (best := best) (by rw [HLN.out.2]; omega) (fun j hj => HMX.out.1 j (by rw [HLN.out.2] at hj; omega)) HMX.out.2)
                  replace HS := Lib.hid (HS.out.below HBW.out)
                  replace HRR := Lib.hid (HRR.out.below HBW.out)
                  replace HB := Lib.hid (step_below HB.out HBW.out)
                  clear HBW HMX
                  have hbz : (best : Int) < (n0 : Int) := by omega
                  obtain ⟨y, hy⟩ : ∃ y, S[best]? = some y := ⟨_, List.getElem?_eq_getElem (by have := HLN.out.1; omega)⟩
                  obtain ⟨z, hz⟩ : ∃ z, R[best]? = some z := ⟨_, List.getElem?_eq_getElem (by have := HLN.out.2; omega)⟩
                  obtain ⟨g1, hg1, -, hco, -, hl1, c1⟩ := HS.out.int hy
                  obtain rfl : go = g1 := by simpa using hg1
                  obtain ⟨g2, hg2, -, -, -, hl2, c2⟩ := HRR.out.int hz
                  obtain rfl : gr = g2 := by simpa using hg2
                  have f1 := HS.out.frozenS best
                  have f2 := HRR.out.frozenS best
                  have hyb := HBN.out y (List.mem_of_getElem? hy)
                  have HY := Lib.hid hy
                  clear hy hz hg1 hg2
                  go_wp2_with fail
                  go_roundw
                  case rel =>
                    have e1 : S.getD best 0 = y := by rw [List.getD_eq_getElem?_getD, HY.out]; rfl
                    have e2 : shStep (S, R) = (S.set best (y + 1), R.set best (-1)) := by unfold shStep; rw [HIX.out, e1]
                    have hs0 := HSH.out
                    rw [HQ.out, shGo, e2] at hs0
                    have hq := HQ.out
                    refine ⟨q, S.set best (y + 1), R.set best (-1), ?_, by omega, by rw [List.length_set, HLN.out.1], by rw [List.length_set, HLN.out.2], hs0, ?_, ?_, ?_, ?_⟩
                    · show Value.int .i64 _ = Value.int .i64 _
                      congr 1
                      omega
                    · intro u hu
                      rcases List.mem_or_eq_of_mem_set hu with hu | hu
                      · have := HBN.out u hu; omega
                      · omega
                    · exact (HS.out.setInt best (y + 1) (by rw [HLN.out.1]; omega)).far (p := ⟨gr, best, none⟩) (by simp only [Value.ownBlock, ne_eq, Option.some.injEq]; exact hne) _
                    · exact Sl.setInt (HRR.out.far (p := ⟨go, best, none⟩) (by simp only [Value.ownBlock, ne_eq, Option.some.injEq]; omega) _) best (-1) (by rw [HLN.out.2]; omega)
                    · exact (HB.out.setCell (p := ⟨go, best, none⟩) hgo _).setCell (p := ⟨gr, best, none⟩) hgr _
                  case measure => simp [intOf] <;> omega
end Go.Proofs.Ytgjecemmejaieaa
