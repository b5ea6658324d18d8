/-
  Texts in one, each behind those that it needs: PoFillW, PoHeap.
-/
import Derived.Test.YtgjecemmejaieaaBaj
/-
  slots.Fill: its walk.
-/
namespace Go.Proofs.Ytgjecemmejaieaa
open Go.RowKit Go.Shelf
theorem infoDp3 : (Try.prog.info? 88).map (fun i => (i.zero, i.size, i.bytes)) = some (some (.agg (dc dp0)), 18, 20) := by kernel_rfl
theorem makeDp (n : Nat) (hn : n ≤ 4096) (w : World) : (Instr.makeSlice 59 (.int .i64 (n : Int)) (.int .i64 (n : Int))).run Try.prog w = .ok (.slice (some ⟨w.heap.size, 0, none⟩) n n) (w.alloc (.cells ((List.replicate n dp0).flatMap Dp.l).toArray 88)) := by
  obtain ⟨i0, hi, hz0, hz1, hz2⟩ := info_parts infoDp3
  have := run_make (P := Try.prog) w 59 88 i0 _ slDp hi hz0 .i64 .i64 n n (by omega) (by omega) (by rw [hz2]; omega) (by omega)
  rw [hz1, Int.toNat_natCast] at this
  rw [this, show (Value.agg (dc dp0)).cells = (Dp.l dp0).toArray from rfl, made_flat Dp.l_length (by omega)]
theorem Sl.frozenD {w : World} {B n c g : Nat} {L : List Dp} (h : Sl 18 Dp.l 88 w B (.slice (some ⟨g, 0, none⟩) n c) L) (i : Nat) : w.frozen? ⟨g, i, none⟩ = false ∧ g < w.heap.size := by
  rcases h.cases with ⟨h1, rfl⟩ | ⟨g', c', cur, h1, h2, h3, _⟩
  · simp at h1
  · simp only [Value.slice.injEq, Option.some.injEq, Addr.mk.injEq, and_true] at h1
    obtain ⟨rfl, rfl, rfl⟩ := h1
    exact ⟨h3.frozen i, h3.lt⟩
theorem le_sum : ∀ (l : List Int), (∀ x ∈ l, 0 ≤ x) → 0 ≤ l.sum ∧ ∀ x ∈ l, x ≤ l.sum
  | [], _ => by simp
  | a :: r, h => by
    obtain ⟨h0, h1⟩ := le_sum r fun x hx => h x (by simp [hx])
    have ha := h a (by simp)
    rw [List.sum_cons]
    refine ⟨by omega, fun x hx => ?_⟩
    rcases List.mem_cons.1 hx with rfl | hx
    · omega
    · have := h1 x hx; omega
theorem Rd.dip {w : World} {a : Option Addr} {m : Nat} {L : List Mb} (h : Rd 19 Mb.l w a m L) {i : Nat} {x : Mb} (hx : L[i]? = some x) :
    ∃ b o, a = some ⟨b, o, none⟩ ∧ b < w.heap.size ∧ aggAt w b (o + i * 19) 18 = dc x.d ∧ aggOk w b (o + i * 19) 18 = true := by
  have hi : i < m := by have := (List.getElem?_eq_some_iff.1 hx).1; rw [h.1] at this; exact this
  obtain ⟨b, o, hab, hlt, hc⟩ := h.2 (by omega)
  refine ⟨b, o, hab, hlt, agg_of (vs := Dp.l x.d) (Dp.l_length _) fun j hj => ?_⟩
  rw [hc i x hx j (by omega)]
  have := ml_dip x j hj
  rw [ml_get, dl_get] at this
  exact this
theorem dc_one (d : Dp) : (dc d).all (·.oneCell') = true := by
  rw [Array.all_eq_true']
  intro v hv
  have hv : v ∈ d.l := by simpa [dc] using hv
  simp only [Dp.l, Adr.l, List.mem_append, List.mem_cons, List.not_mem_nil, or_false] at hv
  rcases hv with (rfl | hv) | rfl
  · rfl
  · obtain ⟨x, _, rfl⟩ := List.mem_map.1 hv; rfl
  · rfl
theorem Sl.storeDp {w : World} {B n c g : Nat} {L : List Dp} (h : Sl 18 Dp.l 88 w B (.slice (some ⟨g, 0, none⟩) n c) L) (i : Nat) (y : Dp) (hi : i < L.length) : (storeCells ⟨g, i * 18, none⟩ (dc y).toList 0).run Try.prog w = .ok () (w.setCells g (i * 18) (dc y).toList) := by
  rcases h.cases with ⟨h1, rfl⟩ | ⟨g', c', cur, h1, h2, h3, h4, h5, h6, h7⟩
  · simp at hi
  · simp only [Value.slice.injEq, Option.some.injEq, Addr.mk.injEq, and_true] at h1
    obtain ⟨rfl, rfl, rfl⟩ := h1
    exact store_at w g (i * 18) _ cur (dc y) h3 (by rw [dc_size, h6]; omega) (dc_one y)
set_option maxRecDepth 100000 in
set_option maxHeartbeats 8000000 in
theorem fill_any (ao am : Option Addr) (no co nm cm n : Nat) (O : List Dp) (M : List Mb) (w : World) (hO : Rd 18 Dp.l w ao no O) (hM : Rd 19 Mb.l w am nm M) (hok : mOk M = true) (h1 : 1 ≤ n) (h2 : n ≤ 64) (h3 : no = 0 ∨ no = n) (h0 : 0 < nm) :
    Calls Try.prog 43 #[.slice ao no co, .slice am nm cm, .int .i64 n] w fun e w' => ∃ v, e = .returned (.tuple #[v, .int .i64 0]) ∧ Sl 18 Dp.l 88 w' w.heap.size v (fillOf O M n) ∧ Below w.heap.size w w' := by
  have HO := Lib.hid hO
  have HM := Lib.hid hM
  have HO0 := Lib.hid hO
  have HM0 := Lib.hid hM
  have HLO := Lib.hid hO.1
  have HLM := Lib.hid hM.1
  obtain ⟨hl32, hw⟩ := mOk_w hok
  rw [hM.1] at hl32
  have HOK := Lib.hid hok
  have HCK := Lib.hid (mChk_yes hok)
  have HF := Lib.hid (sharesOf_facts (L := M) (n := n) hok (by rw [hM.1]; exact h0))
  have d1 : decide ((n : Int) < 1) = false := by simp; omega
  have d2 : decide (64 < (n : Int)) = false := by simp; omega
  clear hO hM hok hw
  have HH3 := Lib.hid h3
  go_enter Try.func43, Try.ntmps43
  go_upto_region 1 with fail
  obtain ⟨bo, hbo⟩ : ∃ bo, bo = w.heap.size := ⟨_, rfl⟩
  rw [← hbo]
  have HAO := Lib.hid (at_new w 59 #[.slice ao no co] bo hbo)
  have HBO := Lib.hid hbo
  have hbs : (w.alloc (.cells #[.slice ao no co] 59)).heap.size = bo + 1 := by rw [hbo]; simp
  replace HO := Lib.hid (HO.out.alloc (.cells #[.slice ao no co] 59))
  replace HM := Lib.hid (HM.out.alloc (.cells #[.slice ao no co] 59))
  have HB := Lib.hid ((Below.refl w.heap.size w).alloc (Nat.le_refl _) (.cells #[.slice ao no co] 59))
  clear hbo
  generalize w.alloc (.cells #[.slice ao no co] 59) = W at *
  go_cut [16, 17, 18, 19, 20, 21, 22, 23, 24, 25, 26, 27, 28, 29, 30, 31, 32, 33, 34, 35, 36, 37] (fun _ _ _ _ _ _ _ _ _ _ _ _ _ _ _ _ _ _ _ _ _ s37 wx => s37 = .bool false ∧ Below W.heap.size W wx)
  case first =>
    go_wp2_with fail
    refine (mcheck_any am nm cm M _ HM.out).mono ?_
    rintro e w1 ⟨rfl, hb⟩
    rw [HCK.out]
    have hao := HAO.out.below hb HAO.out.lt
    have co := hao.cell 0
    simp only [List.getElem?_toArray, List.getElem?_cons_zero] at co
    have l1 := hao.lt
    have HB1 := Lib.hid hb
    clear hb hao
    rcases h3 with rfl | rfl
    · go_wp2_with fail
      go_meet
      exact ⟨rfl, HB1.out⟩
    · have d3 : decide ((0 : Int) < (no : Int)) = true := by simp; omega
      go_wp2_with fail
      go_meet
      exact ⟨rfl, HB1.out⟩
  case rest =>
    obtain ⟨rfl, hb⟩ := hcut
    replace HAO := Lib.hid (HAO.out.below hb HAO.out.lt)
    replace HO := Lib.hid (HO.out.below hb)
    replace HM := Lib.hid (HM.out.below hb)
    replace HB := Lib.hid (step_below HB.out hb)
    have HSZ := Lib.hid (show bo + 1 ≤ wc.heap.size by have := hb.size; omega)
    have d4 : ((nm : Int) == 0) = false := by simp; omega
    clear hb hbs d1 d2 h3
    go_wp2_with fail
    clear d4
    refine (shares_any am nm cm M n _ HM.out HOK.out (by have := HLM.out; omega) h2).mono ?_
    rintro e w2 ⟨v, rfl, hs, hb⟩
    clear HO HM
    replace HAO := Lib.hid (HAO.out.below hb HAO.out.lt)
    replace HB := Lib.hid (step_below HB.out hb)
    obtain ⟨cz, hcz⟩ : ∃ z, z = wc.heap.size := ⟨_, rfl⟩
    rw [← hcz] at hs HSZ
    replace HSZ := Lib.hid (And.intro HSZ.out (show cz ≤ w2.heap.size by rw [hcz]; exact hb.size))
    clear hb hcz
    obtain ⟨al, cl, rfl⟩ := hs.form
    rw [show (sharesOf M n).length = nm by rw [HF.out.1, HLM.out]] at hs ⊢
    obtain ⟨gl, rfl, hgl⟩ : ∃ gl, al = some ⟨gl, 0, none⟩ ∧ cz ≤ gl ∧ gl < w2.heap.size := by
      have hlen : (sharesOf M n).length = nm := by rw [HF.out.1, HLM.out]
      obtain ⟨g, h1, _, _, h4, h5, _⟩ := hs.int (i := 0) (List.getElem?_eq_getElem (by omega))
      exact ⟨g, h1, h4, h5⟩
    have HSL := Lib.hid hs
    clear hs
    have hmk := makeDp n (by omega)
    go_wp2_with fail
    clear hmk
    obtain ⟨gr, hgr⟩ : ∃ gr, gr = w2.heap.size := ⟨_, rfl⟩
    rw [← hgr] at hgl ⊢
    have hat := at_new w2 88 ((List.replicate n dp0).flatMap Dp.l).toArray gr hgr
    have HRE := Lib.hid (Sl.of (B := gr) (L := List.replicate n dp0) Dp.l_length hat (Nat.le_refl _) (by simp) (by rw [List.length_replicate]; unfold maxLen; omega))
    rw [List.length_replicate] at HRE
    have HGR := Lib.hid (show bo < cz ∧ cz ≤ gl ∧ gl < gr ∧ w.heap.size ≤ bo by have := HSZ.out; have := HBO.out; omega)
    replace HB := Lib.hid (HB.out.alloc HB.out.size (.cells ((List.replicate n dp0).flatMap Dp.l).toArray 88))
    replace HAO := Lib.hid (HAO.out.alloc (.cells ((List.replicate n dp0).flatMap Dp.l).toArray 88))
    replace HSL := Lib.hid (HSL.out.alloc (.cells ((List.replicate n dp0).flatMap Dp.l).toArray 88))
    have HB1 := Lib.hid (show gr + 1 ≤ (w2.alloc (.cells ((List.replicate n dp0).flatMap Dp.l).toArray 88)).heap.size by rw [hgr]; simp)
    clear hat hgr hgl HSZ
    generalize w2.alloc (.cells ((List.replicate n dp0).flatMap Dp.l).toArray 88) = W1 at *
    go_loopw [10, 11, 12, 48] (fun s10 _ _ s48 wx => ∃ j : Nat, s48 = .int .i64 (j : Nat) ∧ j ≤ n ∧ Sl 1 ei 3 wx (gr + 1) s10 (List.map (fun i : Nat => (i : Int)) (f1s O M n j).opn) ∧ Sl 1 ei 3 wx cz (.slice (some ⟨gl, 0, none⟩) nm cl) (f1s O M n j).left ∧ Sl 18 Dp.l 88 wx gr (.slice (some ⟨gr, 0, none⟩) n n) (f1s O M n j).out ∧ At wx bo 59 #[.slice ao no co] ∧ Below w.heap.size w wx ∧ gr + 1 ≤ wx.heap.size) (fun _ _ _ s48 _ => n - (intOf s48).toNat)
    case atStart => exact ⟨0, rfl, Nat.zero_le _, Sl.nil _ _ _ _ _, HSL.out, HRE.out, HAO.out, HB.out, HB1.out⟩
    case round =>
      clear HSL HRE HAO HB HB1
      obtain ⟨j, rfl, hj, hop, hsl, hre, hao, hb, hb1⟩ := hrel
      have HOP := Lib.hid hop
      have HSL := Lib.hid hsl
      have HRE := Lib.hid hre
      have HAO := Lib.hid hao
      have HB := Lib.hid hb
      have HB1 := Lib.hid hb1
      have HFF := Lib.hid (f1s_facts O M n HF.out j hj)
      have hopge := Lib.hid (fun g (hg : u10.ownBlock = some g) => (hop.ge hg).2)
      clear hop hsl hre hao hb hb1
      by_cases hlt : j < n
      · have hltz : (j : Int) < (n : Int) := by omega
        go_upto_region 11 with fail
        obtain ⟨bi, hbi⟩ : ∃ bi, bi = wr.heap.size := ⟨_, rfl⟩
        rw [← hbi]
        have HBI := Lib.hid (at_new wr 3 #[.int .i64 (j : Int)] bi hbi)
        have HIB := Lib.hid (show gr + 1 ≤ bi by rw [hbi]; exact HB1.out)
        replace HOP := Lib.hid (HOP.out.alloc (.cells #[.int .i64 (j : Int)] 3))
        have hopn : ∀ g, u10.ownBlock = some g → g < bi := fun g hg => by rw [hbi]; exact (hopge.out g hg)
        replace HSL := Lib.hid (HSL.out.alloc (.cells #[.int .i64 (j : Int)] 3))
        replace HRE := Lib.hid (HRE.out.alloc (.cells #[.int .i64 (j : Int)] 3))
        replace HAO := Lib.hid (HAO.out.alloc (.cells #[.int .i64 (j : Int)] 3))
        replace HB := Lib.hid (HB.out.alloc HB.out.size (.cells #[.int .i64 (j : Int)] 3))
        replace HB1 := Lib.hid (show gr + 1 ≤ (wr.alloc (.cells #[.int .i64 (j : Int)] 3)).heap.size by have := HB1.out; simp; omega)
        have HOG := Lib.hid hopn
        clear hbi hopn hopge
        generalize wr.alloc (.cells #[.int .i64 (j : Int)] 3) = W2 at *
        have co := HAO.out.cell 0
        simp only [List.getElem?_toArray, List.getElem?_cons_zero] at co
        have l1 := HAO.out.lt
        obtain ⟨bq, hbq⟩ : ∃ b, decide (0 < no) = b := ⟨_, rfl⟩
        go_upto_if 53 with (fail)
        have HBQ := Lib.hid hbq
        clear hbq co l1
        go_cut [12, 54, 55, 56] (fun s12 _ _ _ wx => ((s12 = .int .i64 (-1) ∧ fAt O M j = nm) ∨ ∃ k : Nat, s12 = .int .i64 (k : Nat) ∧ fAt O M j = k ∧ k < nm) ∧ Below W2.heap.size W2 wx)
        case first =>
          cases bq with
          | false =>
            go_wp2_with fail
            go_meet
            exact ⟨.inl ⟨rfl, by have := HBQ.out; unfold fAt; rw [if_pos (by have h := HBQ.out; have h2 := HLO.out; simp only [decide_eq_false_iff_not] at h; omega), HLM.out]⟩, Below.refl _ _⟩
          | true =>
            have hnn : no = n := by have := HBQ.out; have h3 := HH3.out; simp at this; omega
            have hoy : O[j]? = some (O.getD j dp0) := by rw [List.getD_eq_getElem?_getD, List.getElem?_eq_getElem (by have := HLO.out; omega)]; rfl
            have HNN := Lib.hid (show 0 < no by omega)
            clear hnn
            go_wp2_with fail
            refine (fidx_any bo bi (O.getD j dp0) j no co nm cm ao am O M _ HAO.out HBI.out (HO0.out.below HB.out) hoy (HM0.out.below HB.out) hl32).mono ?_
            rintro e w4 ⟨hb, hc⟩
            have HB4 := Lib.hid hb
            have he : fAt O M j = M.findIdx (fun x => decide (x.d = O.getD j dp0)) := by unfold fAt; rw [if_neg (by have := HLO.out; have := HNN.out; omega)]
            clear hb
            rcases hc with ⟨rfl, hc⟩ | ⟨k, x, rfl, hk, hx, hz⟩
            · have he2 := Lib.hid (show fAt O M j = nm by rw [he, findIdx_none hc, HLM.out])
              clear hc he
              go_wp2_with fail
              go_meet
              exact ⟨.inl ⟨rfl, he2.out⟩, HB4.out⟩
            · have he2 := Lib.hid (show fAt O M j = k ∧ k < nm from ⟨by rw [he, findIdx_of hk hx hz], by have := (List.getElem?_eq_some_iff.1 hk).1; have := HLM.out; omega⟩)
              clear hk hx hz he
              go_wp2_with fail
              go_meet
              exact ⟨.inr ⟨k, rfl, he2.out⟩, HB4.out⟩
        case rest =>
          obtain ⟨hcc, hb⟩ := hcut
          replace HOP := Lib.hid (HOP.out.below hb)
          replace HSL := Lib.hid (HSL.out.below hb)
          replace HRE := Lib.hid (HRE.out.below hb)
          replace HAO := Lib.hid (HAO.out.below hb HAO.out.lt)
          replace HBI := Lib.hid (HBI.out.below hb HBI.out.lt)
          replace HB := Lib.hid (step_below HB.out hb)
          replace HB1 := Lib.hid (Nat.le_trans HB1.out hb.size)
          clear hb HBQ bq
          obtain ⟨lf, hlf⟩ : ∃ l, l = (f1s O M n j).left := ⟨_, rfl⟩
          rw [← hlf] at HSL HFF
          obtain ⟨kf, hkf⟩ : ∃ k, k = fAt O M j := ⟨_, rfl⟩
          rw [← hkf] at hcc
          obtain ⟨x, hx⟩ : ∃ x, x = lf.getD kf 0 := ⟨_, rfl⟩
          have HX := Lib.hid hx
          have HLF := Lib.hid hlf
          have HKF := Lib.hid hkf
          have HCC := Lib.hid hcc
          have HLL := Lib.hid (show lf.length = nm by rw [HFF.out.1, HLM.out])
          clear hx hlf hkf
          go_upto_region 14 with fail
          go_cut [57, 58, 59, 60, 61, 62, 63, 64, 65] (fun _ _ _ _ _ _ _ _ s65 wx => s65 = .bool (decide (x = 0)) ∧ wx = wc)
          case first =>
            rcases hcc with ⟨rfl, hk⟩ | ⟨k, rfl, hk, hlk⟩
            · have hx0 : x = 0 := by rw [HX.out, hk, List.getD_eq_getElem?_getD, List.getElem?_eq_none (by rw [HLL.out]; exact Nat.le_refl _)]; rfl
              have HX0 := Lib.hid hx0
              clear hk hx0
              go_wp2_with fail
              go_meet
              exact ⟨by rw [HX0.out]; rfl, rfl⟩
            · have hkx : lf[k]? = some x := by rw [HX.out, hk, List.getD_eq_getElem?_getD, List.getElem?_eq_getElem (by rw [HLL.out]; exact hlk)]; rfl
              obtain ⟨g1, hg1, -, hco, -, hl1, c1⟩ := HSL.out.int hkx
              obtain rfl : gl = g1 := by simpa using hg1
              have hkz : (k : Int) < (nm : Int) := by omega
              have hkd : decide ((k : Int) < 0) = false := by simp
              have hxd : (x == 0) = decide (x = 0) := rfl
              have HXD := Lib.hid hxd
              clear hk hkx hg1 hxd
              go_wp2_with fail
              go_meet
              exact ⟨by rw [← HXD.out], rfl⟩
          case rest =>
            obtain ⟨rfl, rfl⟩ := hcut
            clear hcc
            by_cases hx0 : x = 0
            · have hxd : decide (x = 0) = true := by simpa using hx0
              have HX0 := Lib.hid hx0
              have ci := HBI.out.cell 0
              simp only [List.getElem?_toArray, List.getElem?_cons_zero] at ci
              have l1 := HBI.out.lt
              have hol : (List.map (fun i : Nat => (i : Int)) (f1s O M n j).opn).length ≤ 64 := by rw [List.length_map]; have := HFF.out.2.2.2.2.2; omega
              clear hx0
              go_upto_region 18 with (at_builtin; refine wpList_sl_app1 (y := (j : Int)) rfl ei_len ei_one slI infoI rfl (by decide) HOP.out rfl (by unfold maxLen; omega) (by omega) HB1.out rfl rfl rfl rfl ?_; intro v' W5 hs5 hm5 ho5; have HS5 := Lib.hid hs5; have HM5 := Lib.hid hm5; clear hs5 hm5 ho5)
              have hge := fun g (hg : u10.ownBlock = some g) => (HOP.out.ge hg).1
              have HSL5 := Lib.hid (HSL.out.mod HM5.out (fun g hg e => by simp only [Value.ownBlock, Option.some.injEq] at hg; have := hge g e; have := HGR.out; omega))
              have HRE5 := Lib.hid (HRE.out.mod HM5.out (fun g hg e => by simp only [Value.ownBlock, Option.some.injEq] at hg; have := hge g e; omega))
              have HAO5 := Lib.hid (HAO.out.mod HM5.out (fun e => by have := hge _ e; have := HGR.out; omega))
              have HB5 := Lib.hid (HB.out.trans (mod_below HM5.out HB.out.size (fun g hg => by have := hge g hg; have := HGR.out; omega)))
              have HB15 := Lib.hid (Nat.le_trans HB1.out HM5.out.size)
              clear hge hol hxd ci l1
              go_wp2_with fail
              go_roundw
              case rel =>
                have e : f1s O M n (j + 1) = ⟨(f1s O M n j).left, (f1s O M n j).out, (f1s O M n j).opn ++ [j]⟩ := f1_open (by rw [← HLF.out, ← HKF.out, ← HX.out]; exact HX0.out)
                rw [HLF.out] at HSL5
                exact ⟨j + 1, by simp, by omega, by rw [e, List.map_append]; exact HS5.out, by rw [e]; exact HSL5.out, by rw [e]; exact HRE5.out, HAO5.out, HB5.out, HB15.out⟩
              case measure => simp [intOf] <;> omega
            · have hxd : decide (x = 0) = false := by simpa using hx0
              have HX0 := Lib.hid hx0
              rcases HCC.out with ⟨_, hk⟩ | ⟨k, rfl, hk, hlk⟩
              · exact absurd (by rw [HX.out, hk, List.getD_eq_getElem?_getD, List.getElem?_eq_none (by rw [HLL.out]; exact Nat.le_refl _)]; rfl) hx0
              have hnn : O.length ≠ 0 := by
                intro h0
                have := HKF.out
                unfold fAt at this
                rw [if_pos h0, hk] at this
                have := HLM.out
                omega
              have hoy : O[j]? = some (O.getD j dp0) := by rw [List.getD_eq_getElem?_getD, List.getElem?_eq_getElem (by have := HLO.out; have := HH3.out; omega)]; rfl
              have hjo : (j : Int) < (no : Int) := by have := HLO.out; have := HH3.out; omega
              obtain ⟨y, hy⟩ : ∃ y, y = O.getD j dp0 := ⟨_, rfl⟩
              rw [← hy] at hoy
              have HY := Lib.hid hy
              have HK := Lib.hid hk
              obtain ⟨b, o, rfl, hbl, ha, hao⟩ := (HO0.out.below HB.out).agg Dp.l_length hoy
              rw [show (Dp.l y).toArray = dc y from rfl] at ha
              have hbw : b < w.heap.size := by
                obtain ⟨b', o', hab, hlt', _⟩ := HO0.out.2 (by omega)
                simp only [Option.some.injEq, Addr.mk.injEq, and_true] at hab
                omega
              have hM0 : ¬ b = gr := by have := HGR.out; omega
              have hM1 : ¬ bo = gr := by have := HGR.out; omega
              have hM2 : ¬ bi = gr := by have := HIB.out; omega
              have co := HAO.out.cell 0
              have ci := HBI.out.cell 0
              simp only [List.getElem?_toArray, List.getElem?_cons_zero] at co ci
              have l1 := HAO.out.lt
              have l2 := HBI.out.lt
              have l3 := hbl
              clear hx0 hnn hoy hy hk hbw
              go_wp2_with fail
              refine region_sq (fun i => i = gr) [(0, true), (1, true), (2, true), (3, true), (4, true), (5, true), (6, true), (7, false)] (by kernel_rfl) (by kernel_rfl) (fun _ _ d _ _ h => by cases d <;> exact h) ?_
              repeat (first
                | (refine sq_yes rfl (by rfl) (fun w' hM => by ((try replace hM := hM.of_drew); obtain ⟨hR1, hR2, hR3⟩ := hM.rules; have hA := hM.agg; obtain ⟨hA1, hA2⟩ := hA; clear hM; go_simp; with_reducible rfl)) ?_; simp only [Act.put, List.setIfInBounds_toArray, List.set_cons_zero, List.set_cons_succ])
                | (refine sq_no rfl (by rfl) ?_; simp only [Act.put, List.setIfInBounds_toArray, List.set_cons_zero, List.set_cons_succ]))
              have hst := HRE.out.drew.storeDp j y (by rw [HFF.out.2.1]; exact hlt)
              have hS6 := HRE.out.drew.set (x := y) Dp.l_length (show j < (f1s O M n j).out.length by rw [HFF.out.2.1]; exact hlt)
              rw [show Dp.l y = (dc y).toList from rfl] at hS6
              have HS6 := Lib.hid hS6
              have HM6 := Lib.hid (Mod.setCells (M := fun i => i = gr) rfl (dc y).toList (j * 18) wc.drew)
              have f0 := (HRE.out.drew.frozenD (j * 18)).1
              have l4 := (HRE.out.drew.frozenD (j * 18)).2
              clear hS6
              refine sq_do_yes rfl (by rfl) (fun K hK => ?_)
              go_wp2_with fail
              refine ⟨HM6.out, ?_⟩
              have HSL6 := Lib.hid (HSL.out.drew.mod HM6.out (fun g hg e => by simp only [Value.ownBlock, Option.some.injEq] at hg; have := HGR.out; omega))
              have HOP6 := Lib.hid (HOP.out.drew.mod HM6.out (fun g hg e => by have := (HOP.out.ge hg).1; omega))
              have HAO6 := Lib.hid (At.mod (w := wc.drew) HAO.out HM6.out hM1)
              have HB6 := Lib.hid ((HB.out.drew).trans (mod_below HM6.out HB.out.drew.size (fun g hg => by have := HGR.out; omega)))
              have HB16 := Lib.hid (Nat.le_trans (show gr + 1 ≤ wc.drew.heap.size from HB1.out) HM6.out.size)
              clear hst f0 l4 HM6 ha hao co ci l1 l2 l3 hM0 hM1 hM2 hjo
              generalize wc.drew.setCells gr (j * 18) (dc y).toList = W6 at *
              refine sq_end ?_
              have hkx : lf[k]? = some x := by rw [HX.out, HK.out, List.getD_eq_getElem?_getD, List.getElem?_eq_getElem (by rw [HLL.out]; exact hlk)]; rfl
              have hxb : 1 ≤ x ∧ x ≤ 64 := by
                have hm := List.mem_of_getElem? hkx
                have h1 := HFF.out.2.2.1 x hm
                have h2 := (le_sum lf HFF.out.2.2.1).2 x hm
                have h3 := HFF.out.2.2.2.1
                have h4 := HFF.out.2.2.2.2.2
                have h5 := HX0.out
                omega
              obtain ⟨g1, hg1, -, hco, -, hl1, c1⟩ := HSL6.out.int hkx
              obtain rfl : gl = g1 := by simpa using hg1
              have hkz : (k : Int) < (nm : Int) := by omega
              have f1 := HSL6.out.frozenS k
              clear hkx hg1
              go_wp2_with fail
              go_roundw
              case rel =>
                have e : f1s O M n (j + 1) = ⟨(f1s O M n j).left.set k (x - 1), (f1s O M n j).out.set j y, (f1s O M n j).opn⟩ := by
                  have := f1_gave (O := O) (M := M) (s := f1s O M n j) (i := j) (by rw [← HLF.out, ← HKF.out, ← HX.out]; exact HX0.out)
                  rw [← HLF.out, ← HKF.out, ← HX.out, HK.out, ← HY.out, HLF.out] at this
                  exact this
                have hs7 := HSL6.out.setInt k (x - 1) (by rw [HLL.out]; exact hlk)
                rw [HLF.out] at hs7
                exact ⟨j + 1, by simp, by omega, by rw [e]; exact HOP6.out.far (p := ⟨gl, k, none⟩) (fun hg => by have := (HOP6.out.ge hg).1; have := HGR.out; simp only at *; omega) _, by rw [e]; exact hs7, by rw [e]; exact HS6.out.far (p := ⟨gl, k, none⟩) (by simp only [Value.ownBlock, ne_eq, Option.some.injEq]; have := HGR.out; omega) _, HAO6.out.far (p := ⟨gl, k, none⟩) (by have := HGR.out; simp only [ne_eq]; omega) _, HB6.out.setCell (p := ⟨gl, k, none⟩) (show w.heap.size ≤ gl by have := HGR.out; omega) _, by have := HB16.out; simp [World.setCell]; omega⟩
              case measure => simp [intOf] <;> omega
      · have hltz : ¬ (j : Int) < (n : Int) := by omega
        obtain ⟨F, hF⟩ : ∃ F, F = f1s O M n n := ⟨_, rfl⟩
        rw [show f1s O M n j = F by rw [hF]; congr 1; omega] at HOP HSL HRE HFF
        have HFE := Lib.hid hF
        have hjn : j = n := by omega
        rw [hjn] at HFF
        have HLL := Lib.hid (show F.left.length = nm by rw [HFF.out.1, HLM.out])
        obtain ⟨ap, cp, hap⟩ := HOP.out.form
        rw [List.length_map] at hap
        obtain ⟨no2, hno2⟩ : ∃ m, m = F.opn.length := ⟨_, rfl⟩
        rw [← hno2] at hap
        subst hap
        have HN2 := Lib.hid hno2
        have hn2 : no2 ≤ 64 := by rw [hno2]; have := HFF.out.2.2.2.2.2; omega
        clear hF hjn hno2 hlt hj
        go_wp2_with fail
        go_loopw [13, 15, 86] (fun s13 _ s86 wx => ∃ j2 a2 : Nat, s86 = .int .i64 (j2 : Nat) ∧ s13 = .int .i64 (a2 : Nat) ∧ j2 ≤ no2 ∧ Zr a2 (f2s M (F.left, F.out) (F.opn.take j2)).1 ∧ (∀ x ∈ (f2s M (F.left, F.out) (F.opn.take j2)).1, 0 ≤ x) ∧ (f2s M (F.left, F.out) (F.opn.take j2)).1.sum = no2 - j2 ∧ Sl 1 ei 3 wx (gr + 1) (.slice ap no2 cp) (List.map (fun i : Nat => (i : Int)) F.opn) ∧ Sl 1 ei 3 wx cz (.slice (some ⟨gl, 0, none⟩) nm cl) (f2s M (F.left, F.out) (F.opn.take j2)).1 ∧ Sl 18 Dp.l 88 wx gr (.slice (some ⟨gr, 0, none⟩) n n) (f2s M (F.left, F.out) (F.opn.take j2)).2 ∧ Below w.heap.size w wx) (fun _ _ s86 _ => no2 - (intOf s86).toNat)
        case atStart => exact ⟨0, 0, rfl, rfl, Nat.zero_le _, Zr.zero _, HFF.out.2.2.1, by show F.left.sum = _; rw [HFF.out.2.2.2.1, HN2.out]; omega, HOP.out, HSL.out, HRE.out, HB.out⟩
        case round =>
          clear HOP HSL HRE HAO HB HB1
          obtain ⟨j2, a2, rfl, rfl, hj2, hz, hp, hs, hop, hsl, hre, hb⟩ := hrel
          obtain ⟨S, hS⟩ : ∃ S, S = (f2s M (F.left, F.out) (F.opn.take j2)).1 := ⟨_, rfl⟩
          obtain ⟨T, hT⟩ : ∃ T, T = (f2s M (F.left, F.out) (F.opn.take j2)).2 := ⟨_, rfl⟩
          have HLS := Lib.hid (show S.length = nm by rw [hS, (f2s_len _ _ _).1]; exact HLL.out)
          have HLT := Lib.hid (show T.length = n by rw [hT, (f2s_len _ _ _).2]; exact HFF.out.2.1)
          rw [← hS] at hz hp hs hsl
          rw [← hT] at hre
          have HS := Lib.hid hS
          have HT := Lib.hid hT
          have HZ := Lib.hid hz
          have HP := Lib.hid hp
          have HSM := Lib.hid hs
          have HOP := Lib.hid hop
          have HSL := Lib.hid hsl
          have HRE := Lib.hid hre
          have HB := Lib.hid hb
          clear hS hT hz hp hs hop hsl hre hb
          by_cases hlt : j2 < no2
          · have hltz : (j2 : Int) < (no2 : Int) := by omega
            obtain ⟨i, hi⟩ : ∃ i, F.opn[j2]? = some i := ⟨_, List.getElem?_eq_getElem (by have := HN2.out; omega)⟩
            have hin : i < n := HFF.out.2.2.2.2.1 i (List.mem_of_getElem? hi)
            have hiz : (i : Int) < (n : Int) := by omega
            have HI := Lib.hid hi
            obtain ⟨g3, rfl, -, hc3, hB3, hl3, c3⟩ := HOP.out.int (i := j2) (x := (i : Int)) (by rw [List.getElem?_map, hi]; rfl)
            clear hi
            go_wp2_with fail
            go_loopw [13] (fun s13 wx => ∃ a : Nat, s13 = .int .i64 (a : Nat) ∧ Zr a S ∧ wx = wr) (fun s13 _ => nm - (intOf s13).toNat)
            case atStart => exact ⟨a2, rfl, HZ.out, rfl⟩
            case round =>
              obtain ⟨a, rfl, hz, rfl⟩ := hrel
              have han : a < nm := by have := hz.lt (by rw [HSM.out]; omega); rw [HLS.out] at this; exact this
              have HZA := Lib.hid hz
              have haz : (a : Int) < (nm : Int) := by omega
              obtain ⟨x, hx⟩ : ∃ x, x = S.getD a 0 := ⟨_, rfl⟩
              have hax : S[a]? = some x := by rw [hx, List.getD_eq_getElem?_getD, List.getElem?_eq_getElem (by rw [HLS.out]; exact han)]; rfl
              have HX := Lib.hid hx
              have HAX := Lib.hid hax
              obtain ⟨g1, hg1, -, hco, -, hl1, c1⟩ := HSL.out.int hax
              obtain rfl : gl = g1 := by simpa using hg1
              clear hz hx hax hg1
              by_cases hx0 : x = 0
              · have HX0 := Lib.hid hx0
                have hxz : (x == 0) = true := by simpa using hx0
                clear hx0
                go_wp2_with fail
                go_roundw
                case rel => exact ⟨a + 1, by simp, HZA.out.succ (by rw [← HX.out]; exact HX0.out), trivial⟩
                case measure => simp [intOf] <;> omega
              · have HX0 := Lib.hid hx0
                have hxz : (x == 0) = false := by simpa using hx0
                obtain ⟨m, hm⟩ : ∃ m, M[a]? = some m := ⟨_, List.getElem?_eq_getElem (by rw [HLM.out]; exact han)⟩
                have HMM := Lib.hid hm
                have HM1 := Lib.hid (HM0.out.below HB.out)
                obtain ⟨b, o, rfl, hbl, ha, hao⟩ := HM1.out.dip hm
                have hst := HRE.out.storeDp i m.d (by rw [HLT.out]; exact hin)
                have hS6 := HRE.out.set (x := m.d) Dp.l_length (show i < T.length by rw [HLT.out]; exact hin)
                rw [show Dp.l m.d = (dc m.d).toList from rfl] at hS6
                have HS6 := Lib.hid hS6
                have HM6 := Lib.hid (Mod.setCells (M := fun i => i = gr) rfl (dc m.d).toList (i * 18) wr)
                have f0 := (HRE.out.frozenD (i * 18)).1
                have l4 := (HRE.out.frozenD (i * 18)).2
                clear hx0 hm hS6
                go_upto_region 26 with fail
                have HSL6 := Lib.hid (HSL.out.mod HM6.out (fun g hg e => by simp only [Value.ownBlock, Option.some.injEq] at hg; have := HGR.out; omega))
                have HOP6 := Lib.hid (HOP.out.mod HM6.out (fun g hg e => by have := (HOP.out.ge hg).1; omega))
                have HB6 := Lib.hid (HB.out.trans (mod_below HM6.out HB.out.size (fun g hg => by have := HGR.out; omega)))
                clear hst f0 l4 HM6 ha hao hbl c1 hl1
                generalize wr.setCells gr (i * 18) (dc m.d).toList = W6 at *
                have hxb : 1 ≤ x ∧ x ≤ 64 := by
                  have hm := List.mem_of_getElem? HAX.out
                  have h1 := HP.out x hm
                  have h2 := (le_sum S HP.out).2 x hm
                  have h3 := HSM.out
                  have h5 := HX0.out
                  omega
                obtain ⟨g1, hg1, -, -, -, hl1, c1⟩ := HSL6.out.int HAX.out
                obtain rfl : gl = g1 := by simpa using hg1
                have f1 := HSL6.out.frozenS a
                clear hg1 c3 hl3
                go_wp2_with fail
                go_roundw
                case rel =>
                  have hne : S.getD a 0 ≠ 0 := by rw [← HX.out]; exact HX0.out
                  have e : f2s M (F.left, F.out) (F.opn.take (j2 + 1)) = (S.set a (x - 1), T.set i m.d) := by
                    rw [List.take_add_one, HI.out, Option.toList_some, f2s_snoc]
                    unfold f2
                    rw [← HS.out, ← HT.out, HZA.out.nx hne, ← HX.out, getD_of HMM.out]
                  have hg := gave hne HP.out
                  rw [← HX.out] at hg
                  refine ⟨j2 + 1, a, by simp, rfl, by omega, ?_, ?_, ?_, ?_, ?_, ?_, HB6.out.setCell (p := ⟨gl, a, none⟩) (show w.heap.size ≤ gl by have := HGR.out; omega) _⟩
                  · rw [e]; exact HZA.out.set _
                  · rw [e]; exact hg.2
                  · rw [e]; show (S.set a (x - 1)).sum = _; rw [hg.1, HSM.out]; push_cast; omega
                  · exact HOP6.out.far (p := ⟨gl, a, none⟩) (by simp only [Value.ownBlock, ne_eq, Option.some.injEq]; have := HGR.out; omega) _
                  · rw [e]; exact HSL6.out.setInt a (x - 1) (by rw [HLS.out]; exact han)
                  · rw [e]; exact HS6.out.far (p := ⟨gl, a, none⟩) (by simp only [Value.ownBlock, ne_eq, Option.some.injEq]; have := HGR.out; omega) _
                case measure => simp [intOf] <;> omega
          · have hltz : ¬ (j2 : Int) < (no2 : Int) := by omega
            have hjn : j2 = no2 := by omega
            have HFO := Lib.hid (show T = fillOf O M n by rw [HT.out, List.take_of_length_le (by have := HN2.out; omega), HFE.out]; rfl)
            clear hjn
            go_wp2_with fail
            go_ret2
            rw [← HFO.out]
            exact ⟨_, rfl, HRE.out.base (by have := HGR.out; omega), HB.out⟩
end Go.Proofs.Ytgjecemmejaieaa

/-
  A pool's versions: the heap's picture.
-/
namespace Go.Proofs.Ytgjecemmejaieaa
open Go.RowKit Go.Shelf
def pc (c : Cf) (l : Value) (now : Nat) (lv sv : Value) : Array Value := cc c ++ #[l, .int .i64 (now : Nat), lv, sv]
@[go_sem] theorem pc_size (c : Cf) (l : Value) (now : Nat) (lv sv : Value) : (pc c l now lv sv).size = 52 := by simp [pc, cc_size]
theorem pc_hi (c : Cf) (l : Value) (now : Nat) (lv sv : Value) (j : Nat) : (pc c l now lv sv)[48 + j]? = #[l, .int .i64 (now : Nat), lv, sv][j]? := by
  unfold pc; rw [Array.getElem?_append_right (by rw [cc_size]; omega), cc_size]; congr 1; omega
theorem pc_lo (c : Cf) (l : Value) (now : Nat) (lv sv : Value) (j : Nat) (h : j < 48) : (pc c l now lv sv)[j]? = (cc c)[j]? := by
  unfold pc; rw [Array.getElem?_append_left (by rw [cc_size]; exact h)]
@[go_sem] theorem pc_c (c : Cf) (l : Value) (now : Nat) (lv sv : Value) : (pc c l now lv sv).extract 0 48 = cc c := by
  have := ext_of (a := 0) (n := 48) (x := pc c l now lv sv) (cc_size c) (by rw [pc_size]; omega) (fun j hj => by rw [Nat.add_zero, pc_lo _ _ _ _ _ _ hj])
  simpa using this
theorem pc_now (c : Cf) (l : Value) (now now' : Nat) (lv sv : Value) : (pc c l now lv sv).setIfInBounds 49 (.int .i64 (now' : Nat)) = pc c l now' lv sv := by
  unfold pc
  have : (cc c).size = 48 := cc_size c
  rw [Array.setIfInBounds_append_right (by omega), this]; rfl
/-- A version: the slots (a value, and what it shows), who holds it, whether it waits. -/
structure V where
  sv : Value
  S : List Dp
  refs : Nat
  res : Bool
abbrev V.l (v : V) : List Value := [v.sv, .int .i64 (v.refs : Nat), .bool v.res]
theorem V.len (v : V) : (V.l v).length = 3 := rfl
structure Po (w : World) (B p t : Nat) (c : Cf) (vs : List V) (now : Nat) (lv : Value) (L : List Mb) (sv : Value) (S : List Dp) : Prop where
  obj : At w p 93 (pc c (.slice (some ⟨t, 0, none⟩) vs.length vs.length) now lv sv)
  arr : Sl 3 V.l 90 w B (.slice (some ⟨t, 0, none⟩) vs.length vs.length) vs
  bp : B ≤ p
  vers : ∀ v ∈ vs, Sl 18 Dp.l 88 w B v.sv v.S
  last : Sl 19 Mb.l 108 w B lv L
  sl : Sl 18 Dp.l 88 w B sv S
  lt : now < vs.length
  big : vs.length ≤ 4096
variable {w w' : World} {B p t : Nat} {c : Cf} {vs : List V} {now : Nat} {lv sv : Value} {L : List Mb} {S : List Dp}
theorem Po.same (h : Po w B p t c vs now lv L sv S) (hb : ∀ g, B ≤ g → g < w.heap.size → w'.heap[g]? = w.heap[g]?) : Po w' B p t c vs now lv L sv S where
  obj := (hb p h.bp h.obj.lt).trans h.obj
  arr := h.arr.same fun g hg hl => hb g (h.arr.ge hg).1 hl
  bp := h.bp
  vers := fun v hv => (h.vers v hv).same fun g hg hl => hb g ((h.vers v hv).ge hg).1 hl
  last := h.last.same fun g hg hl => hb g (h.last.ge hg).1 hl
  sl := h.sl.same fun g hg hl => hb g (h.sl.ge hg).1 hl
  lt := h.lt
  big := h.big
theorem Po.below (h : Po w B p t c vs now lv L sv S) (hb : Below w.heap.size w w') : Po w' B p t c vs now lv L sv S := h.same fun g _ hl => hb.block g hl
theorem Po.alloc (h : Po w B p t c vs now lv L sv S) (o : Obj) : Po (w.alloc o) B p t c vs now lv L sv S := h.same fun g _ hl => Below.heap_alloc w o g hl
theorem Po.drew (h : Po w B p t c vs now lv L sv S) : Po w.drew B p t c vs now lv L sv S := h.same fun _ _ _ => rfl
/-- The object's cells. -/
theorem Po.cells (h : Po w B p t c vs now lv L sv S) : w.cell? ⟨p, 48, none⟩ = some (.slice (some ⟨t, 0, none⟩) vs.length vs.length) ∧ w.cell? ⟨p, 49, none⟩ = some (.int .i64 (now : Nat)) ∧ w.cell? ⟨p, 50, none⟩ = some lv ∧ w.cell? ⟨p, 51, none⟩ = some sv ∧ p < w.heap.size := by
  refine ⟨?_, ?_, ?_, ?_, h.obj.lt⟩
  · rw [h.obj.cell]; exact pc_hi _ _ _ _ _ 0
  · rw [h.obj.cell]; exact pc_hi _ _ _ _ _ 1
  · rw [h.obj.cell]; exact pc_hi _ _ _ _ _ 2
  · rw [h.obj.cell]; exact pc_hi _ _ _ _ _ 3
/-- A version's cells. -/
theorem Po.at (h : Po w B p t c vs now lv L sv S) {i : Nat} {v : V} (hv : vs[i]? = some v) : w.cell? ⟨t, i * 3, none⟩ = some v.sv ∧ w.cell? ⟨t, i * 3 + 1, none⟩ = some (.int .i64 (v.refs : Nat)) ∧ w.cell? ⟨t, i * 3 + 2, none⟩ = some (.bool v.res) ∧ t < w.heap.size := by
  obtain ⟨b, o, hbo, hlt, hc⟩ := (h.arr.rd V.len).1.2 (by have := (List.getElem?_eq_some_iff.1 hv).1; omega)
  simp only [Option.some.injEq, Addr.mk.injEq, and_true] at hbo
  obtain ⟨rfl, rfl⟩ := hbo
  have h0 := hc i v hv 0 (by omega)
  have h1 := hc i v hv 1 (by omega)
  have h2 := hc i v hv 2 (by omega)
  simp only [Nat.zero_add, Nat.add_zero, V.l, List.getElem?_cons_zero, List.getElem?_cons_succ] at h0 h1 h2
  exact ⟨h0, h1, h2, hlt⟩
/-- Is it live? -/
def liveB (vs : List V) (now : Nat) (v : Int) : Bool := if 0 ≤ v then match vs[v.toNat]? with | some x => decide (v.toNat = now) || decide (0 < x.refs) || x.res | none => false else false
theorem liveB_neg {v : Int} (h : v < 0) : liveB vs now v = false := by unfold liveB; rw [if_neg (by omega)]
theorem liveB_big {v : Int} (h : (vs.length : Int) ≤ v) : liveB vs now v = false := by
  unfold liveB
  rw [if_pos (by omega), List.getElem?_eq_none (by omega)]
theorem liveB_at {i : Nat} {x : V} (h : vs[i]? = some x) : liveB vs now (i : Int) = (decide (i = now) || decide (0 < x.refs) || x.res) := by
  unfold liveB
  rw [if_pos (by omega), Int.toNat_natCast, h]
set_option maxHeartbeats 2000000 in
theorem live_any (h : Po w B p t c vs now lv L sv S) (v : Int) : Calls Try.prog 37 #[.pointer (some ⟨p, 0, none⟩), .int .i64 v] w fun e w' => e = .returned (.bool (liveB vs now v)) ∧ w' = w := by
  obtain ⟨c48, c49, -, -, hl⟩ := h.cells
  have H := Lib.hid h
  obtain ⟨n, hn⟩ : ∃ n, n = vs.length := ⟨_, rfl⟩
  rw [← hn] at c48
  have HN := Lib.hid hn
  clear h hn
  by_cases h1 : v < 0
  · have R := Lib.hid (liveB_neg (vs := vs) (now := now) h1)
    have d1 : decide (0 ≤ v) = false := by simpa using h1
    clear h1
    go_enter Try.func37, Try.ntmps37
    go_wp2_with fail
    go_ret
    exact ⟨by rw [R.out]; rfl, rfl⟩
  · have d1 : decide (0 ≤ v) = true := by simpa using h1
    by_cases h2 : v < (n : Int)
    · obtain ⟨i, rfl⟩ : ∃ i : Nat, v = i := ⟨v.toNat, by omega⟩
      have hin : i < n := by omega
      obtain ⟨x, hx⟩ : ∃ x, vs[i]? = some x := ⟨_, List.getElem?_eq_getElem (by have := HN.out; omega)⟩
      obtain ⟨c0, c1, c2, htl⟩ := H.out.at hx
      have R := Lib.hid (liveB_at (now := now) hx)
      clear h1 hx
      by_cases h3 : i = now
      · have R2 := Lib.hid (show liveB vs now (i : Int) = true by rw [R.out, decide_eq_true h3]; rfl)
        have d3 : ((i : Int) == (now : Int)) = true := by rw [beq_iff_eq, h3]
        clear h3
        go_enter Try.func37, Try.ntmps37
        go_wp2_with fail
        go_ret
        exact ⟨by rw [R2.out]; rfl, rfl⟩
      · have d3 : ((i : Int) == (now : Int)) = false := by simp; omega
        by_cases h4 : 0 < x.refs
        · have R2 := Lib.hid (show liveB vs now (i : Int) = true by rw [R.out, decide_eq_true h4]; simp)
          have d4 : decide (0 < x.refs) = true := by simpa using h4
          clear h3 h4
          go_enter Try.func37, Try.ntmps37
          go_wp2_with fail
          go_ret
          exact ⟨by rw [R2.out]; rfl, rfl⟩
        · have R2 := Lib.hid (show liveB vs now (i : Int) = x.res by rw [R.out, decide_eq_false h3, decide_eq_false h4]; simp)
          have d4 : decide (0 < x.refs) = false := by simpa using h4
          clear h3 h4
          go_enter Try.func37, Try.ntmps37
          go_wp2_with fail
          go_ret
          exact ⟨by rw [R2.out]; rfl, rfl⟩
    · have R := Lib.hid (liveB_big (vs := vs) (now := now) (v := v) (by have := HN.out; omega))
      have d2 : decide (v < (n : Int)) = false := by simpa using h2
      clear h1 h2
      go_enter Try.func37, Try.ntmps37
      go_wp2_with fail
      go_ret
      exact ⟨by rw [R.out]; rfl, rfl⟩
end Go.Proofs.Ytgjecemmejaieaa
