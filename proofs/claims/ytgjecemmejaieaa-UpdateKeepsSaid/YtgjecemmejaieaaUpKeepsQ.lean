/-
  UpdateKeeps.
-/
import Derived.Test.YtgjecemmejaieaaUpKeepXQ
namespace Go.Proofs.Ytgjecemmejaieaa
open Go.RowKit Go.Shelf
abbrev e2 (x : Int × Int) : List Value := [.int .i64 x.1, .int .i64 x.2]
theorem k0 {c : Cf} {n nv N : Nat} (hc : Cfg c n nv N) (p t : Nat) (lv sv : Value) (B : Nat) : Kq n nv (s0 (d0 p t n nv B lv sv) N) := by
  have hg : ((List.replicate nv v0).set 0 ⟨sv, fillR [] (sm 3) n, 0, false⟩)[0]? = some ⟨sv, fillR [] (sm 3) n, 0, false⟩ := by rw [List.getElem?_set_self (by have := hc.v1; simp; omega)]
  refine ⟨by simp [s0, d0], by simp [s0], ⟨_, hg, rfl⟩, fun u x hx => ?_, by simp [s0], by simp [s0], fun h => by simp [s0] at h, fillR_len _ _ _ (sm_ok 3)⟩
  have hx' : ((List.replicate nv v0).set 0 ⟨sv, fillR [] (sm 3) n, 0, false⟩)[u]? = some x := hx
  rw [if_neg (by simp [s0])]
  by_cases h0 : u = 0
  · subst h0
    rw [hg] at hx'
    cases hx'
    exact ⟨fillR_le _ _ _ (sm_ok 3) hc.n2, rfl⟩
  · rw [List.getElem?_set_ne (fun e => h0 e.symm), List.getElem?_replicate] at hx'
    split at hx'
    · cases hx'
      exact ⟨by simp [v0], rfl⟩
    · cases hx'
set_option maxRecDepth 100000 in
set_option maxHeartbeats 8000000 in
theorem ukeeps_any (al aa : Option Addr) (nl cl na ca : Nat) (l : List Int) (A : List (Int × Int)) (w : World) (hl : Ints w al nl l) (ha : Rd 2 e2 w aa na A) (hnl : nl ≤ 30) (hna : na ≤ 80) :
    Calls Try.prog 3 #[.slice al nl cl, .slice aa na ca] w fun e w' => e = .returned (.bool true) ∧ Below w.heap.size w w' := by
  have HL := Lib.hid hl
  have HA := Lib.hid ha
  have h1 : decide ((30 : Int) < (nl : Int)) = false := by simp; omega
  have h1' : decide (30 < nl) = false := by simp; omega
  have h2 : decide ((80 : Int) < (na : Int)) = false := by simp; omega
  have h2' : decide (80 < na) = false := by simp; omega
  have KC := Lib.hid (fun w h => config_any al nl cl l w h (by omega))
  obtain ⟨n, nv, N, CF0, hh0⟩ := cfg_config l
  have CF := Lib.hid CF0
  have HH := Lib.hid hh0
  obtain ⟨c, hc⟩ : ∃ c, c = config l := ⟨_, rfl⟩
  rw [← hc] at CF HH KC
  clear hl ha hc CF0 hh0
  have hzg := zero_g
  have hzn := zero_n
  go_enter Try.func3, Try.ntmps3
  go_wp2_with fail
  refine (KC.out _ HL.out).mono ?_
  rintro e w1 ⟨rfl, hb⟩
  have HB := Lib.hid hb
  clear hb KC HL h1 h1' h2 h2'
  go_wp2_with fail
  refine (fresh_any c n nv N _ CF.out).mono ?_
  rintro e w2 ⟨b, gm, k, d, rfl, hbb, hbd, hkB, hkN, ⟨p, t, lv, sv, B, rfl⟩, hU, -, hb⟩
  have HD := Lib.hid (show Bd w1 w2 c b gm k (s0 (d0 p t n nv B lv sv) N) 0 0 (.slice none 0 0) from ⟨hbd, hU, hb, hkB⟩)
  have HBB := Lib.hid hbb
  clear hbb hbd hkB hU hb hkN
  go_wp2_with fail
  obtain ⟨gA, hgA⟩ : ∃ g, g = w2.heap.size := ⟨_, rfl⟩
  obtain ⟨gM, hgM⟩ : ∃ g, g = w2.heap.size + 1 := ⟨_, rfl⟩
  have hA1 : At ((w2.alloc (.cells (gcs fun _ => 0) 35)).alloc (.cells (ncs fun _ => false) 36)) gA 35 (gcs fun _ => 0) := (at_new _ _ _ _ hgA).alloc _
  have hM1 : At ((w2.alloc (.cells (gcs fun _ => 0) 35)).alloc (.cells (ncs fun _ => false) 36)) gM 36 (ncs fun _ => false) := at_new _ _ _ _ (by rw [hgM]; simp)
  have hb12 : Below w2.heap.size w2 ((w2.alloc (.cells (gcs fun _ => 0) 35)).alloc (.cells (ncs fun _ => false) 36)) := ((Below.refl _ w2).alloc (Nat.le_refl _) _).alloc (by simp) _
  rw [← hgM, ← hgA]
  have hbs := HD.out.bel.size
  have HX := Lib.hid (show Kx w1 ((w2.alloc (.cells (gcs fun _ => 0) 35)).alloc (.cells (ncs fun _ => false) 36)) c b gm k gA gM n nv 0 (s0 (d0 p t n nv B lv sv) N) 0 [] (.slice none 0 0) (fun _ => 0) (fun _ => false) from
    { bd := HD.out.below hb12
      q := k0 CF.out p t lv sv B
      wt := ⟨by simp [s0], fun i x hx => by simp at hx⟩
      sl := Sl.nil _ _ _ _ _
      ap := fun g hg => by simp [Value.ownBlock] at hg
      ga := hA1
      gm := hM1
      bA := by omega
      bM := by omega
      bb := HBB.out
      lt := by simp
      ll := by simp [s0]
      nl := by simp })
  clear hA1 hM1 hb12 hbs HD hgA hgM hzg hzn
  generalize (w2.alloc (.cells (gcs fun _ => 0) 35)).alloc (.cells (ncs fun _ => false) 36) = W3 at *
  go_loopw [9, 10, 11, 12, 13, 14] (fun s9 _ _ _ _ _ wx => ∃ (i : Nat) (s : Us) (f : Nat) (ns : List Nat) (v : Value) (gv : Nat → Nat) (nm : Nat → Bool), s9 = .int .i64 (i : Nat) ∧ i ≤ na ∧ Kx w1 wx c b gm k gA gM n nv i s f ns v gv nm) (fun s9 _ _ _ _ _ _ => na - (intOf s9).toNat)
  case atStart => exact ⟨0, _, 0, [], _, _, _, rfl, Nat.zero_le _, HX.out⟩
  case round =>
    clear HX
    obtain ⟨i, s, f, ns, v, gv, nm, rfl, hi, hX⟩ := hrel
    have HX := Lib.hid hX
    clear hX
    by_cases hlt : i < na
    · have hltz : (i : Int) < (na : Int) := by omega
      have hltd : decide (i < na) = true := by simpa using hlt
      obtain ⟨ba, oa, haa, hba, hca⟩ := HA.out.2 (by omega)
      obtain ⟨⟨kd, num⟩, hax⟩ : ∃ x, A[i]? = some x := ⟨_, List.getElem?_eq_getElem (by have := HA.out.1; omega)⟩
      have ca0 := hca i _ hax 0 (by omega)
      have ca1 := hca i _ hax 1 (by omega)
      have HBA := Lib.hid (step_below HB.out HX.out.bd.bel)
      have lba : ba < wr.heap.size := Nat.lt_of_lt_of_le hba HBA.out.size
      replace ca0 := (HBA.out.cell (p := ⟨ba, oa + i * 2 + 0, none⟩) hba).trans ca0
      replace ca1 := (HBA.out.cell (p := ⟨ba, oa + i * 2 + 1, none⟩) hba).trans ca1
      simp only [e2, List.getElem?_cons_zero, List.getElem?_cons_succ, Nat.add_zero] at ca0 ca1
      subst haa
      clear hca hax hba
      go_upto_region 12 with fail
      obtain ⟨ga, hga⟩ : ∃ ga, ga = wr.heap.size := ⟨_, rfl⟩
      rw [← hga]
      have HAC := Lib.hid (at_new wr 38 #[.int .i64 kd, .int .i64 num] ga hga)
      replace HX := Lib.hid (HX.out.below ((Below.refl _ wr).alloc (Nat.le_refl _) (.cells #[.int .i64 kd, .int .i64 num] 38)))
      clear hga ca0 ca1 lba HBA
      generalize wr.alloc (.cells #[.int .i64 kd, .int .i64 num] 38) = W4 at *
      have k0 := HAC.out.cell 0
      have k1 := HAC.out.cell 1
      simp only [List.getElem?_toArray, List.getElem?_cons_zero, List.getElem?_cons_succ] at k0 k1
      have lga := HAC.out.lt
      obtain ⟨x, hx⟩ : ∃ x : Nat, num % 300 = x := ⟨(num % 300).toNat, by omega⟩
      have HXL := Lib.hid (show x < 300 by omega)
      go_wp2_with fail
      refine (round_big num 300 (by omega) (by omega) _).mono ?_
      rw [hx]
      rintro e w5 ⟨rfl, rfl⟩
      clear hx
      obtain ⟨-, c1, c3, c4, c5, lb⟩ := HX.out.bd.cells
      have nb := HX.out.bd.not
      have nga := HX.out.bd.up.not HAC.out (by decide) (by decide) (by decide) (by decide) (by decide)
      by_cases h1 : kd = 1
      · as_aux_lemma =>
          have d1 : (kd == 1) = true := by simpa using h1
          clear h1
          go_upto_region 15 with fail
          refine region_sq (UM k s) [(0, true), (1, true), (2, true), (3, true), (4, true), (5, true), (6, false), (7, false)] (by kernel_rfl) (by kernel_rfl) (fun _ _ d _ _ h => by cases d <;> exact h) ?_
          repeat (first
            | (refine sq_yes rfl (by rfl) (fun w' hM => by ((try replace hM := hM.of_drew); obtain ⟨hR1, hR2, hR3⟩ := hM.rules; have hA := hM.agg; obtain ⟨hA1, hA2⟩ := hA; clear hM; go_simp; with_reducible rfl)) ?_; simp only [Act.put, List.setIfInBounds_toArray, List.set_cons_zero, List.set_cons_succ])
            | (refine sq_no rfl (by rfl) ?_; simp only [Act.put, List.setIfInBounds_toArray, List.set_cons_zero, List.set_cons_succ]))
          clear c1 c3 c4 c5 lb k0 k1 lga HAC
          replace HX := Lib.hid HX.out.drew
          generalize w5.drew = w6 at *
          refine sq_do_yes rfl (by rfl) (fun K_ hK_ => ?_)
          go_wp2_with fail
          refine (usome_any num _).mono ?_
          rintro e w7 ⟨v7, rfl, hs, hb⟩
          obtain ⟨a7, c7, hv7⟩ := hs.form
          have HS := Lib.hid hs
          replace HX := Lib.hid (HX.out.below hb)
          have HMa := Lib.hid (Mod.of_below (M := UM k s) hb)
          obtain ⟨l7, hl7⟩ : ∃ l, l = (sm num).length := ⟨_, rfl⟩
          rw [← hl7] at hv7
          subst hv7
          clear hs hb hl7
          go_wp2_with fail
          refine ⟨HMa.out, ?_⟩
          clear HMa
          refine sq_do_yes rfl (by rfl) (fun K_ hK_ => ?_)
          go_wp2_with fail
          refine (kask_any HX.out.bd.up HX.out.q HX.out.wt a7 l7 c7 _ (sm num) HS.out (sm_ok num) CF.out.s CF.out.n1 CF.out.n2 (by have := HX.out.ll; omega)).mono ?_
          rintro e w8 ⟨⟨v8, rfl⟩, s8, hU, hq, hw, ho, hll, hp, hm⟩
          have HX8 := Lib.hid (HX.out.act hm hU hq hw hp (by have := HX.out.ll; omega) ho)
          have HMa := Lib.hid hm
          clear hU hq hw ho hll hp hm HX HS
          go_wp2_with fail
          refine ⟨HMa.out, ?_⟩
          clear HMa
          refine sq_end ?_
          go_wp2_with fail
          go_roundw
          case rel => exact ⟨i + 1, s8, f, ns, v, gv, nm, by go_num, by omega, HX8.out⟩
          case measure => simp [intOf]; omega
      have d1 : (kd == 1) = false := by simpa using h1
      clear h1
      by_cases h2 : kd = 2
      · as_aux_lemma =>
          have d2 : (kd == 2) = true := by simpa using h2
          clear h2
          go_upto_region 17 with fail
          refine region_sq (UM k s) [(0, true), (1, true), (2, true), (3, true), (4, true), (5, true), (6, true), (7, true), (8, true), (9, true), (10, true), (11, true), (12, false)] (by kernel_rfl) (by kernel_rfl) (fun _ _ d _ _ h => by cases d <;> exact h) ?_
          repeat (first
            | (refine sq_yes rfl (by rfl) (fun w' hM => by ((try replace hM := hM.of_drew); obtain ⟨hR1, hR2, hR3⟩ := hM.rules; have hA := hM.agg; obtain ⟨hA1, hA2⟩ := hA; clear hM; go_simp; with_reducible rfl)) ?_; simp only [Act.put, List.setIfInBounds_toArray, List.set_cons_zero, List.set_cons_succ])
            | (refine sq_no rfl (by rfl) ?_; simp only [Act.put, List.setIfInBounds_toArray, List.set_cons_zero, List.set_cons_succ]))
          clear c1 c3 c4 c5 lb k0 k1 lga HAC
          replace HX := Lib.hid HX.out.drew
          generalize w5.drew = w6 at *
          refine sq_do_yes rfl (by rfl) (fun K_ hK_ => ?_)
          go_wp2_with fail
          refine (kgo_any HX.out.bd.up HX.out.q HX.out.wt).mono ?_
          rintro e w8 ⟨⟨v8, rfl⟩, s8, hU, hq, hw, ho, hll, hp, hm⟩
          have HX8 := Lib.hid (HX.out.act hm hU hq hw hp (by have := HX.out.ll; omega) (.inl ho))
          have HMa := Lib.hid hm
          clear hU hq hw ho hll hp hm HX
          go_wp2_with fail
          refine ⟨HMa.out, ?_⟩
          clear HMa
          refine sq_end ?_
          go_wp2_with fail
          go_roundw
          case rel => exact ⟨i + 1, s8, f, ns, v, gv, nm, by go_num, by omega, HX8.out⟩
          case measure => simp [intOf]; omega
      have d2 : (kd == 2) = false := by simpa using h2
      clear h2
      by_cases h3 : kd = 3
      · as_aux_lemma =>
        have d3 : (kd == 3) = true := by simpa using h3
        clear h3
        obtain ⟨a0, q0, hv0⟩ := HX.out.sl.form
        rw [List.length_map] at hv0
        subst hv0
        have hnl := HX.out.nl
        have HCON := Lib.hid (show (nsI ns).contains (x : Int) = decide (x ∈ ns) by
          rw [Bool.eq_iff_iff, List.contains_iff_mem, decide_eq_true_iff, List.mem_map]
          constructor
          · rintro ⟨y, hy, e⟩
            have : y = x := by omega
            exact this ▸ hy
          · intro h
            exact ⟨x, h, rfl⟩)
        go_wp2_with fail
        clear c1 c3 c4 k0 k1 lga HAC
        refine (uhas_any a0 ns.length q0 (nsI ns) x _ (HX.out.sl.rd ei_len).1 (by omega)).mono ?_
        rw [HCON.out]
        rintro e w6 ⟨rfl, rfl⟩
        obtain ⟨W, hW⟩ : ∃ W, W = decide (x ∈ ns) := ⟨_, rfl⟩
        rw [← hW]
        have HW := Lib.hid hW
        clear hW c5 hnl
        obtain ⟨-, c1, -, -, -, lb⟩ := HX.out.bd.cells
        go_upto_region 20 with fail
        refine region_sq (UM k s) [(0, true), (1, true), (2, true), (3, true), (4, true), (6, true), (5, false), (7, false), (8, true), (9, true), (10, true), (11, true), (12, true)] (by kernel_rfl) (by kernel_rfl) (fun _ _ d _ _ h => by cases d <;> exact h) ?_
        repeat (first
          | (refine sq_yes rfl (by rfl) (fun w' hM => by ((try replace hM := hM.of_drew); obtain ⟨hR1, hR2, hR3⟩ := hM.rules; have hA := hM.agg; obtain ⟨hA1, hA2⟩ := hA; clear hM; go_simp; with_reducible rfl)) ?_; simp only [Act.put, List.setIfInBounds_toArray, List.set_cons_zero, List.set_cons_succ])
          | (refine sq_no rfl (by rfl) ?_; simp only [Act.put, List.setIfInBounds_toArray, List.set_cons_zero, List.set_cons_succ]))
        clear c1 lb nga
        replace HX := Lib.hid HX.out.drew
        generalize w6.drew = w7 at *
        refine sq_do_yes rfl (by rfl) (fun K_ hK_ => ?_)
        go_wp2_with fail
        refine (key_any (x : Int) false false _).mono ?_
        rintro e w8 ⟨rfl, hb⟩
        replace HX := Lib.hid (HX.out.below hb)
        have HMa := Lib.hid (Mod.of_below (M := UM k s) hb)
        clear hb
        go_wp2_with fail
        refine ⟨HMa.out, ?_⟩
        clear HMa
        refine sq_do_yes rfl (by rfl) (fun K_ hK_ => ?_)
        go_wp2_with fail
        refine (kver_any HX.out.bd.up HX.out.q x W HH.out).mono ?_
        rintro e w9 ⟨v9, p9, rfl, s9, y, hU, hq, hwt, hlv, hl, hd, hm, hy, hyl, hlive, hbp, htell, hpush⟩
        have HX9 := Lib.hid (HX.out.act hm hU hq (hwt _ _ _ _ HX.out.wt) (by rw [hd]) (by rw [hl]; exact Nat.le_succ_of_le HX.out.ll) (.inl (by rw [hlv])))
        have HMa := Lib.hid hm
        have HY := Lib.hid (show s9.d.vs[v9]? = some y ∧ liveB s9.d.vs s9.d.now v9 = true ∧ y.S.length ≤ 64 from ⟨by rw [hd]; exact hy, by rw [hd]; exact hlive, hyl⟩)
        have HNL := Lib.hid HX.out.nl
        have HTELL := Lib.hid (fun i hi hn => htell f ns gv nm i HX.out.wt hi hn)
        have HPUSH := Lib.hid (fun hb hp hx => hpush hb hp f ns gv nm HX.out.wt hx)
        have HBP := Lib.hid hbp
        clear hU hq hwt hlv hl hd hm hy hyl hlive hbp htell hpush HX nb
        go_wp2_with fail
        refine ⟨HMa.out, ?_⟩
        clear HMa
        repeat (first
          | (refine sq_yes rfl (by rfl) (fun w' hM => by ((try replace hM := hM.of_drew); obtain ⟨hR1, hR2, hR3⟩ := hM.rules; have hA := hM.agg; obtain ⟨hA1, hA2⟩ := hA; clear hM; go_simp; with_reducible rfl)) ?_; simp only [Act.put, List.setIfInBounds_toArray, List.set_cons_zero, List.set_cons_succ])
          | (refine sq_no rfl (by rfl) ?_; simp only [Act.put, List.setIfInBounds_toArray, List.set_cons_zero, List.set_cons_succ]))
        refine sq_end ?_
        have xlt := HXL.out
        have xz : (x : Int) < 300 := by omega
        have cg := HX9.out.ga.cell x
        have cn := HX9.out.gm.cell x
        rw [gcs_get _ x xlt] at cg
        rw [ncs_get _ x xlt] at cn
        have lg := HX9.out.ga.lt
        have ln := HX9.out.gm.lt
        cases W with
        | true =>
          have hp9 := HBP.out rfl
          subst hp9
          have hmem : x ∈ ns := by have := HW.out; simpa using this.symm
          obtain ⟨j, hj⟩ := List.mem_iff_getElem?.1 hmem
          have HVN := Lib.hid (show gv x = v9 ∨ nm x = true by
            cases hn : nm x with
            | false => exact .inl (HTELL.out j hj hn)
            | true => exact .inr rfl)
          clear hmem hj
          have hne : ((v9 : Int) != (gv x : Int)) = true ∨ ((v9 : Int) != (gv x : Int)) = false := by cases ((v9 : Int) != (gv x : Int)) <;> simp
          generalize hG : gv x = G at cg hne HVN
          generalize hNm : nm x = Nm at cn HVN
          rcases hne with hne | hne
          · have hNt : Nm = true := by
              rcases HVN.out with h | h
              · subst h; simp at hne
              · exact h
            subst hNt
            go_wp2_with fail
            go_roundw
            case rel => exact ⟨i + 1, s9, f, ns, _, gv, nm, by go_num, by omega, HX9.out⟩
            case measure => simp [intOf]; omega
          · go_wp2_with fail
            go_roundw
            case rel => exact ⟨i + 1, s9, f, ns, _, gv, nm, by go_num, by omega, HX9.out⟩
            case measure => simp [intOf]; omega
        | false =>
          obtain ⟨c0, -, -, -, -, lb⟩ := HX9.out.bd.cells
          go_wp2_with fail
          refine (slots_any HX9.out.bd.up.pool v9 y HY.out.1 HY.out.2.1 HY.out.2.2).mono ?_
          rintro e w10 ⟨sv, rfl, hs, hb⟩
          obtain ⟨aS, cS, rfl⟩ := hs.form
          replace HX9 := Lib.hid (HX9.out.below hb)
          clear hs hb cg cn lg ln c0 lb
          obtain ⟨Ln, hLn⟩ : ∃ m, m = y.S.length := ⟨_, rfl⟩
          rw [← hLn]
          have HLn := Lib.hid hLn
          clear hLn
          by_cases hp : 0 < Ln
          · have hpz : (0 : Int) < (Ln : Int) := by omega
            have hxn : ¬ x ∈ ns := by have := HW.out; simpa using this.symm
            have HWT := Lib.hid (HPUSH.out (by trivial) (by rw [← HLn.out]; exact hp) hxn)
            have HQ := Lib.hid HX9.out.q
            have HLT := Lib.hid HX9.out.lt
            have HLL := Lib.hid (And.intro HX9.out.ll HNL.out)
            have HK := Lib.hid HX9.out.kb
            clear HX9 HPUSH HTELL HBP HY
            have cg := HK.out.ga.cell x
            have cn := HK.out.gm.cell x
            rw [gcs_get _ x xlt] at cg
            rw [ncs_get _ x xlt] at cn
            have fg := HK.out.ga.frozen x
            have fn := HK.out.gm.frozen x
            have lg := HK.out.ga.lt
            have ln := HK.out.gm.lt
            have hgm : ¬ gM = gA := At.ne HK.out.gm HK.out.ga (by decide)
            go_upto_region 25 with fail
            clear cg cn fg fn lg ln hgm
            replace HK := Lib.hid ((HK.out.setA x v9).setM x p9)
            generalize (w10.setCell ⟨gA, x, none⟩ (.int .i64 (v9 : Nat))).setCell ⟨gM, x, none⟩ (.bool p9) = W11 at *
            have hnl := HNL.out
            have HRD := Lib.hid (HK.out.sl.rd ei_len).1
            obtain ⟨-, -, -, -, c5, lb⟩ := HK.out.bd.cells
            go_upto_region 26 with (at_builtin; first
              | (refine wpList_sl_app (B := W11.heap.size) rfl ei_len ei_one slI infoI rfl (by decide) (Sl.empty 1 ei 3 W11 _ rfl (Nat.le_refl _)) (HRD.out.alloc _) (by simp [maxLen]; omega) (by simp; omega) (by simp) rfl rfl rfl ?_
                 intro v1 W12 hs1 hm1 _
                 have hb1 : Below W11.heap.size W11 W12 := ((Below.refl _ _).alloc (Nat.le_refl _) _).trans (mod_below hm1 (by simp) (fun g hg => by simp only [Value.ownBlock, Option.some.injEq] at hg; omega))
                 have HS1 := Lib.hid hs1
                 have HB1 := Lib.hid hb1
                 clear hs1 hm1 hb1)
              | (refine wpList_sl_app1 (y := (x : Int)) rfl ei_len ei_one slI infoI rfl (by decide) HS1.out rfl (by simp [maxLen]; omega) (by simp; omega) HB1.out.size rfl rfl rfl rfl ?_
                 intro v2 W13 hs2 hm2 _
                 have hb2 : Below W11.heap.size W11 W13 := HB1.out.trans (mod_below hm2 HB1.out.size (fun g hg => (HS1.out.ge hg).1))
                 obtain ⟨a2, q2, hv2⟩ := hs2.form
                 rw [show (([] : List Int) ++ nsI ns ++ [(x : Int)]).length = ns.length + 1 by simp] at hv2
                 subst hv2
                 have HS2 := Lib.hid (show Sl 1 ei 3 W13 W11.heap.size (.slice a2 (ns.length + 1) q2) (nsI (ns ++ [x])) by
                   have e : ([] : List Int) ++ nsI ns ++ [(x : Int)] = nsI (ns ++ [x]) := by simp
                   rw [← e]
                   exact hs2)
                 have HK2 := Lib.hid (HK.out.below hb2)
                 have HAP := Lib.hid (HK.out.apart (Nat.le_refl _) hs2)
                 obtain ⟨-, -, -, -, c5b, -⟩ := HK2.out.bd.cells
                 have f5b := HK2.out.bd.bed.frozen 5
                 have lb2 := HK2.out.bd.bed.lt
                 clear hs2 hm2 hb2))
            have HK3 := Lib.hid (HK2.out.setB (F' := (f : Int)) (G' := ((f + ns.length : Nat) : Int)) (v' := .slice a2 (ns.length + 1) q2) 5 (.slice a2 (ns.length + 1) q2) rfl (HS2.out.base HK.out.bd.bel.size) HAP.out)
            clear c5b f5b lb2 HK2 HS2 HK HS1 HB1 c5 lb HRD
            generalize W13.setCell ⟨b, 5, none⟩ (.slice a2 (ns.length + 1) q2) = W14 at *
            obtain ⟨-, -, -, c4, -, lb⟩ := HK3.out.bd.cells
            have f4 := HK3.out.bd.bed.frozen 4
            have hwf : IntKind.i64.wrap (((f + ns.length : Nat) : Int) + 1) = ((f + (ns.length + 1) : Nat) : Int) := by
              rw [IntKind.wrap_i64]
              omega
            have HK4 := Lib.hid (HK3.out.setB (F' := (f : Int)) (G' := ((f + (ns.length + 1) : Nat) : Int)) (v' := .slice a2 (ns.length + 1) q2) 4 (.int .i64 ((f + (ns.length + 1) : Nat) : Int)) rfl HK3.out.sl HK3.out.ap)
            have hmem : ∀ y ∈ ns ++ [x], y < 300 := fun y hy => by
              rcases List.mem_append.1 hy with h | h
              · exact HLT.out y h
              · simp only [List.mem_singleton] at h
                omega
            have HKX := Lib.hid (HK4.out.kx (n := n) (nv := nv) (t := i + 1) (f := f) (ns := ns ++ [x]) rfl (by simp) rfl HQ.out HWT.out hmem HLL.out.1 (by have := HLL.out.2; simp; omega))
            clear HK3 HK4 hmem
            go_wp2_with fail
            go_roundw
            case rel => exact ⟨i + 1, s9, f, ns ++ [x], _, _, _, by go_num, by omega, HKX.out⟩
            case measure => simp [intOf]; omega
          · have hpz : Ln = 0 := by omega
            subst hpz
            go_wp2_with fail
            go_roundw
            case rel => exact ⟨i + 1, s9, f, ns, _, gv, nm, by go_num, by omega, HX9.out⟩
            case measure => simp [intOf]; omega
      have d3 : (kd == 3) = false := by simpa using h3
      clear h3
      by_cases h4 : kd = 4
      · as_aux_lemma =>
        have d4 : (kd == 4) = true := by simpa using h4
        clear h4
        obtain ⟨a0, q0, hv0⟩ := HX.out.sl.form
        rw [List.length_map] at hv0
        subst hv0
        cases ns with
        | nil =>
          go_wp2_with fail
          go_roundw
          case rel => exact ⟨i + 1, s, f, [], _, gv, nm, by go_num, by omega, HX.out.more⟩
          case measure => simp [intOf]; omega
        | cons z r =>
          obtain ⟨g, hg, hcap, hRd⟩ : ∃ g, a0 = some ⟨g, 0, none⟩ ∧ r.length + 1 ≤ q0 ∧ Rd 1 ei w5 (if q0 = 1 then some ⟨g, 0, none⟩ else some ⟨g, 0 + 1, none⟩) r.length (nsI r) := by
            rcases HX.out.sl.cases with ⟨h1, h2⟩ | ⟨g, c', cur, h1, h2, h3, h4, h5, h6, h7⟩
            · simp at h2
            · simp only [Value.slice.injEq] at h1
              obtain ⟨rfl, h1b, rfl⟩ := h1
              have hlen : (nsI (z :: r)).length = r.length + 1 := by simp
              have hle : r.length + 1 ≤ q0 := by rw [← hlen]; exact h4
              refine ⟨g, rfl, hle, by simp, fun hn => ⟨g, 1, by rw [if_neg (by omega)], h3.lt, fun j y hy jj hjj => ?_⟩⟩
              have hj0 : jj = 0 := by omega
              subst hj0
              have hrd := (HX.out.sl.rd ei_len).1
              obtain ⟨b', o', hbo, _, hcc⟩ := hrd.2 (by simp)
              simp only [Option.some.injEq, Addr.mk.injEq, and_true] at hbo
              obtain ⟨rfl, rfl⟩ := hbo
              have := hcc (j + 1) y (by simpa using hy) 0 (by omega)
              rw [show 0 + (j + 1) * 1 + 0 = 1 + j * 1 + 0 by omega] at this
              exact this
          subst hg
          have HNL := Lib.hid HX.out.nl
          have hnl := HNL.out
          simp only [List.length_cons] at hnl
          have HQ := Lib.hid HX.out.q
          have HLT := Lib.hid (show ∀ y ∈ r, y < 300 from fun y hy => HX.out.lt y (List.mem_cons_of_mem _ hy))
          have HLL := Lib.hid HX.out.ll
          have HWT := Lib.hid HX.out.wt.pop
          have HK := Lib.hid HX.out.kb
          simp only [List.length_cons] at HK c5 c4
          have hn1 : (1 : Int) ≤ ((r.length + 1 : Nat) : Int) := by omega
          have hn0 : (0 : Int) < ((r.length + 1 : Nat) : Int) := by omega
          have hn0' : (0 : Int) < (r.length : Int) + 1 := by omega
          have HRD := Lib.hid hRd
          clear HX HAC hRd c1 c3
          by_cases hq1 : q0 = 1
          · subst hq1
            have hr : r = [] := by cases r with | nil => rfl | cons _ _ => simp at hcap
            subst hr
            have hb1 : Below w5.heap.size w5 (w5.alloc (.cells #[] 3)) := (Below.refl _ _).alloc (Nat.le_refl _) _
            obtain ⟨gE, hgE⟩ : ∃ g, g = w5.heap.size := ⟨_, rfl⟩
            have hsE : Sl 1 ei 3 (w5.alloc (.cells #[] 3)) w5.heap.size (.slice (some ⟨gE, 0, none⟩) 0 0) (nsI []) := Sl.empty 1 ei 3 w5 _ hgE (Nat.le_of_eq hgE.symm)
            have HS1 := Lib.hid hsE
            have HK2 := Lib.hid (HK.out.below hb1)
            have HAP := Lib.hid (HK.out.apart (Nat.le_refl _) hsE)
            obtain ⟨-, -, -, -, c5b, -⟩ := HK2.out.bd.cells
            have f5b := HK2.out.bd.bed.frozen 5
            have lb2 := HK2.out.bd.bed.lt
            clear hb1 hsE
            go_upto_region 30 with fail
            rw [← hgE]
            have HK3 := Lib.hid (HK2.out.setB (F' := (f : Int)) (G' := ((f + (0 + 1) : Nat) : Int)) (v' := .slice (some ⟨gE, 0, none⟩) 0 0) 5 (.slice (some ⟨gE, 0, none⟩) 0 0) rfl (HS1.out.base HK.out.bd.bel.size) HAP.out)
            clear c5b f5b lb2 HK2 HS1 HK c5 c4 HRD hgE
            have hcm : (w5.alloc (.cells #[] 3)).setCell ⟨b, 5, none⟩ (.slice (some ⟨gE, 0, none⟩) 0 0) = (w5.setCell ⟨b, 5, none⟩ (.slice (some ⟨gE, 0, none⟩) 0 0)).alloc (.cells #[] 3) := by
              clear HK3
              go_simp
            rw [hcm] at HK3
            clear hcm lb
            generalize (w5.setCell ⟨b, 5, none⟩ (.slice (some ⟨gE, 0, none⟩) 0 0)).alloc (.cells #[] 3) = W14 at *
            obtain ⟨-, -, c3, -, -, lb⟩ := HK3.out.bd.cells
            have f3 := HK3.out.bd.bed.frozen 3
            have hwf : IntKind.i64.wrap ((f : Int) + 1) = ((f + 1 : Nat) : Int) := by
              rw [IntKind.wrap_i64]
              omega
            have HK4 := Lib.hid (HK3.out.setB (F' := ((f + 1 : Nat) : Int)) (G' := ((f + (0 + 1) : Nat) : Int)) (v' := .slice (some ⟨gE, 0, none⟩) 0 0) 3 (.int .i64 ((f + 1 : Nat) : Int)) rfl HK3.out.sl HK3.out.ap)
            have HKX := Lib.hid (HK4.out.kx (n := n) (nv := nv) (t := i + 1) (f := f + 1) (ns := []) rfl (by simp) rfl HQ.out HWT.out HLT.out (Nat.le_succ_of_le HLL.out) (by simp; omega))
            clear HK3 HK4
            go_wp2_with fail
            go_roundw
            case rel => exact ⟨i + 1, s, f + 1, [], _, gv, nm, by go_num, by omega, HKX.out⟩
            case measure => simp [intOf]; omega
          · rw [if_neg hq1] at HRD
            go_upto_region 30 with (at_builtin; refine wpList_sl_app (B := w5.heap.size) rfl ei_len ei_one slI infoI rfl (by decide) (Sl.empty 1 ei 3 w5 _ rfl (Nat.le_refl _)) (HRD.out.alloc _) (by simp [maxLen]; omega) (by simp; omega) (by simp) rfl rfl rfl ?_
                                    intro v1 W12 hs1 hm1 _
                                    have hb1 : Below w5.heap.size w5 W12 := ((Below.refl _ _).alloc (Nat.le_refl _) _).trans (mod_below hm1 (by simp) (fun g hg => by simp only [Value.ownBlock, Option.some.injEq] at hg; omega))
                                    obtain ⟨a2, q2, hv2⟩ := hs1.form
                                    rw [show (([] : List Int) ++ nsI r).length = r.length by simp] at hv2
                                    subst hv2
                                    have HS1 := Lib.hid (show Sl 1 ei 3 W12 w5.heap.size (.slice a2 r.length q2) (nsI r) from hs1)
                                    have HK2 := Lib.hid (HK.out.below hb1)
                                    have HAP := Lib.hid (HK.out.apart (Nat.le_refl _) hs1)
                                    obtain ⟨-, -, -, -, c5b, -⟩ := HK2.out.bd.cells
                                    have f5b := HK2.out.bd.bed.frozen 5
                                    have lb2 := HK2.out.bd.bed.lt
                                    clear hs1 hm1 hb1)
            have HK3 := Lib.hid (HK2.out.setB (F' := (f : Int)) (G' := ((f + (r.length + 1) : Nat) : Int)) (v' := .slice a2 r.length q2) 5 (.slice a2 r.length q2) rfl (HS1.out.base HK.out.bd.bel.size) HAP.out)
            clear c5b f5b lb2 HK2 HS1 HK c5 c4 lb HRD
            generalize W12.setCell ⟨b, 5, none⟩ (.slice a2 r.length q2) = W14 at *
            obtain ⟨-, -, c3, -, -, lb⟩ := HK3.out.bd.cells
            have f3 := HK3.out.bd.bed.frozen 3
            have hwf : IntKind.i64.wrap ((f : Int) + 1) = ((f + 1 : Nat) : Int) := by
              rw [IntKind.wrap_i64]
              omega
            have HK4 := Lib.hid (HK3.out.setB (F' := ((f + 1 : Nat) : Int)) (G' := ((f + (r.length + 1) : Nat) : Int)) (v' := .slice a2 r.length q2) 3 (.int .i64 ((f + 1 : Nat) : Int)) rfl HK3.out.sl HK3.out.ap)
            have HKX := Lib.hid (HK4.out.kx (n := n) (nv := nv) (t := i + 1) (f := f + 1) (ns := r) rfl (by congr 1; omega) rfl HQ.out HWT.out HLT.out (Nat.le_succ_of_le HLL.out) (by omega))
            clear HK3 HK4
            go_wp2_with fail
            go_roundw
            case rel => exact ⟨i + 1, s, f + 1, r, _, gv, nm, by go_num, by omega, HKX.out⟩
            case measure => simp [intOf]; omega
      have d4 : (kd == 4) = false := by simpa using h4
      clear h4 HAC
      go_wp2_with fail
      go_roundw
      case rel => exact ⟨i + 1, s, f, ns, v, gv, nm, by go_num, by omega, HX.out.more⟩
      case measure => simp [intOf]; omega
    · have hltz : ¬ (i : Int) < (na : Int) := by omega
      have hltd : decide (i < na) = false := by simpa using hlt
      have HBA := Lib.hid (step_below HB.out HX.out.bd.bel)
      go_wp2_with fail
      refine (uawake_any _).mono ?_
      rintro e w9 ⟨rfl, hb⟩
      have HB2 := Lib.hid (step_below HBA.out hb)
      clear hb
      go_wp2_with fail
      go_ret
      exact ⟨rfl, HB2.out⟩
end Go.Proofs.Ytgjecemmejaieaa
