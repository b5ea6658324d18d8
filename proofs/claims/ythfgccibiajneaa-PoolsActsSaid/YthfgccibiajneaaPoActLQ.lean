/-
  PoolsActs: each act tells, and all versions are, as the document says.
-/
import Derived.Test.YthfgccibiajneaaPoActPQ
import Derived.Test.YthfgccibiajneaaPoRfNewQ
import Derived.Deep.CutBlock
namespace Go.Proofs.Ythfgccibiajneaa
open Go.RowKit Go.Shelf
/-- What holds behind k acts. -/
structure AIb (w0 wx : World) (g B p t B2 p2 t2 N n k : Nat) (c : Cf) (now last : Nat) (vs : List V) (rs : List RV) (lv sv mv : Value) (L : List Mb) (S : List Dp) : Prop where
  po : Po wx B p t c vs now lv L sv S
  rp : Rp wx B2 p2 t2 c rs now last mv L
  ra : RA N n k vs rs
  ls : ∃ xl, rs[last]? = some xl ∧ xl.S = S
  wl : ∀ x ∈ L, wOk x
  ll : L.length ≤ 64
  cf : At wx g 27 (cc c)
  bel : Below w0.heap.size w0 wx
def AI (w0 wx : World) (g B p t B2 p2 t2 N n k : Nat) (c : Cf) : Prop := ∃ now last vs rs lv sv mv L S, AIb w0 wx g B p t B2 p2 t2 N n k c now last vs rs lv sv mv L S
section
variable {w0 wx wy : World} {g B p t B2 p2 t2 N n k now last : Nat} {c : Cf} {vs : List V} {rs : List RV} {lv sv mv : Value} {L : List Mb} {S : List Dp}
theorem AIb.below (h : AIb w0 wx g B p t B2 p2 t2 N n k c now last vs rs lv sv mv L S) (hb : Below wx.heap.size wx wy) : AIb w0 wy g B p t B2 p2 t2 N n k c now last vs rs lv sv mv L S :=
  ⟨h.po.below hb, h.rp.below hb, h.ra, h.ls, h.wl, h.ll, h.cf.below hb h.cf.lt, step_below h.bel hb⟩
theorem AIb.drew (h : AIb w0 wx g B p t B2 p2 t2 N n k c now last vs rs lv sv mv L S) : AIb w0 wx.drew g B p t B2 p2 t2 N n k c now last vs rs lv sv mv L S :=
  ⟨h.po.drew, h.rp.drew, h.ra, h.ls, h.wl, h.ll, h.cf.drew, h.bel.drew⟩
theorem AIb.mono {k' : Nat} (h : AIb w0 wx g B p t B2 p2 t2 N n k c now last vs rs lv sv mv L S) (hk : k ≤ k') : AIb w0 wx g B p t B2 p2 t2 N n k' c now last vs rs lv sv mv L S :=
  ⟨h.po, h.rp, h.ra.mono hk, h.ls, h.wl, h.ll, h.cf, h.bel⟩
variable {wy' wz : World} {k' now' last' : Nat} {vs' : List V} {rs' : List RV} {lv' sv' mv' : Value} {L' : List Mb} {S' : List Dp}
/-- The pool has acted, then the document's. -/
theorem AIb.two (h : AIb w0 wx g B p t B2 p2 t2 N n k c now last vs rs lv sv mv L S) (hg : g < B) (hg2 : g < B2) (h0 : w0.heap.size ≤ B) (h02 : w0.heap.size ≤ B2) (hm1 : Md p t wx wy) (hp : Po wy B p t c vs' now' lv' L' sv' S') (hb : Below wy.heap.size wy wy') (hm2 : Md p2 t2 wy' wz) (hr : Rp wz B2 p2 t2 c rs' now' last' mv' L')
    (ra : RA N n k' vs' rs') (ls : ∃ xl, rs'[last']? = some xl ∧ xl.S = S') (wl : ∀ x ∈ L', wOk x) (ll : L'.length ≤ 64) : AIb w0 wz g B p t B2 p2 t2 N n k' c now' last' vs' rs' lv' sv' mv' L' S' := by
  have hr1 : Rp wy' B2 p2 t2 c rs now last mv L := (h.rp.md h.po hm1).below hb
  have hp1 : Po wy' B p t c vs' now' lv' L' sv' S' := hp.below hb
  have hb1 : Below w0.heap.size w0 wy' := step_below (hm1.bel h.po h0 h.bel) hb
  have hc1 : At wy g 27 (cc c) := h.cf.mod hm1 (by have := h.po.bp; have := h.po.bt; omega)
  have hc2 : At wy' g 27 (cc c) := hc1.below hb hc1.lt
  exact ⟨hp1.md hr1 hm2, hr, ra, ls, wl, ll, hc2.mod hm2 (by have := hr1.bp; have := hr1.bt; omega), hr1.bel h02 hb1 hm2⟩
end
set_option maxRecDepth 100000 in
set_option maxHeartbeats 8000000 in
theorem pacts_any (al af aa : Option Addr) (nl cl nf cf na ca : Nat) (l : List Int) (F : List Mb) (A : List A3) (w : World) (hl : Ints w al nl l) (hF : Rd 19 Mb.l w af nf F) (hA : Rd 3 ea w aa na A) (hA3 : ∀ x ∈ A, i64ok x.1 ∧ i64ok x.2.1 ∧ i64ok x.2.2) :
    Calls Try.prog 9 #[.slice al nl cl, .slice af nf cf, .slice aa na ca] w fun e w' => e = .returned (.bool true) ∧ Below w.heap.size w w' := by
  by_cases hn : 30 < nl ∨ 40 < nf ∨ 60 < na
  · have hc : (30 < nl) ∨ (¬ 30 < nl ∧ 40 < nf) ∨ (¬ 30 < nl ∧ ¬ 40 < nf ∧ 60 < na) := by omega
    clear hn hl hF hA hA3
    rcases hc with h1 | ⟨h1, h2⟩ | ⟨h1, h2, h3⟩
    · have d0 : decide ((30 : Int) < (nl : Int)) = true := by simp; omega
      have e0 : decide (30 < nl) = true := by simp; omega
      go_enter Try.func9, Try.ntmps9
      go_wp2_with fail
      refine (pawake_any _).mono ?_
      rintro e w1 ⟨rfl, hb⟩
      have HB := Lib.hid hb
      clear hb
      go_wp2_with fail
      go_ret
      exact ⟨rfl, HB.out⟩
    · have d0 : decide ((30 : Int) < (nl : Int)) = false := by simp; omega
      have e0 : decide (30 < nl) = false := by simp; omega
      have d1 : decide ((40 : Int) < (nf : Int)) = true := by simp; omega
      have e1 : decide (40 < nf) = true := by simp; omega
      go_enter Try.func9, Try.ntmps9
      go_wp2_with fail
      refine (pawake_any _).mono ?_
      rintro e w1 ⟨rfl, hb⟩
      have HB := Lib.hid hb
      clear hb
      go_wp2_with fail
      go_ret
      exact ⟨rfl, HB.out⟩
    · have d0 : decide ((30 : Int) < (nl : Int)) = false := by simp; omega
      have e0 : decide (30 < nl) = false := by simp; omega
      have d1 : decide ((40 : Int) < (nf : Int)) = false := by simp; omega
      have e1 : decide (40 < nf) = false := by simp; omega
      have d2 : decide ((60 : Int) < (na : Int)) = true := by simp; omega
      have e2 : decide (60 < na) = true := by simp; omega
      go_enter Try.func9, Try.ntmps9
      go_wp2_with fail
      refine (pawake_any _).mono ?_
      rintro e w1 ⟨rfl, hb⟩
      have HB := Lib.hid hb
      clear hb
      go_wp2_with fail
      go_ret
      exact ⟨rfl, HB.out⟩
  · have hl30 : nl ≤ 30 := by omega
    have hf40 : nf ≤ 40 := by omega
    have ha60 : na ≤ 60 := by omega
    have d0 : decide ((30 : Int) < (nl : Int)) = false := by simp; omega
    have e0 : decide (30 < nl) = false := by simp; omega
    have d1 : decide ((40 : Int) < (nf : Int)) = false := by simp; omega
    have e1 : decide (40 < nf) = false := by simp; omega
    have d2 : decide ((60 : Int) < (na : Int)) = false := by simp; omega
    have e2 : decide (60 < na) = false := by simp; omega
    have HL := Lib.hid hl
    have HF := Lib.hid hF
    have HA := Lib.hid hA
    have HA3 := Lib.hid hA3
    have CK := Lib.hid (cok_config l)
    obtain ⟨n, hsl, hn1, hn2⟩ : ∃ n : Nat, (config l).slots = (n : Int) ∧ 1 ≤ n ∧ n ≤ 64 := ⟨(1 + (atOf l 5 16).toNat), by simp [config, cfgOf], by omega, by have := atOf_bounds l 5 16 (by omega); omega⟩
    obtain ⟨N, hve, hN1, hN2⟩ : ∃ N : Nat, (config l).versions = (N : Int) ∧ 1 ≤ N ∧ N ≤ 64 := ⟨(2 + (atOf l 6 5).toNat), by simp [config, cfgOf], by omega, by have := atOf_bounds l 6 5 (by omega); omega⟩
    have HCS := Lib.hid hsl
    have HCV := Lib.hid hve
    have KC := Lib.hid (fun w h => config_any al nl cl l w h (by omega))
    obtain ⟨c, hc⟩ : ∃ c, c = config l := ⟨_, rfl⟩
    rw [← hc] at CK HCS HCV KC
    have hst := fun (w : World) (n : Nat) (Z : Array Value) (hn : n = w.heap.size) (hZ : Z.size = 48) => store_new (P := Try.prog) sizeC w n Z (cc c) hn hZ (cc_size _) (cc_one _)
    clear hn hl hF hA hA3 hsl hve hc
    go_enter Try.func9, Try.ntmps9
    go_wp2_with fail
    refine (KC.out _ HL.out).mono ?_
    rintro e w1 ⟨rfl, hb⟩
    have HB := Lib.hid hb
    clear hb d0 d1 d2 e0 e1 e2
    go_upto_region 4 with fail
    obtain ⟨g, hg⟩ : ∃ g, g = w1.heap.size := ⟨_, rfl⟩
    rw [← hg]
    have HC := Lib.hid (at_new w1 27 (cc c) g hg)
    have HG := Lib.hid (show w.heap.size ≤ g by rw [hg]; exact HB.out.size)
    replace HB := Lib.hid (HB.out.alloc HB.out.size (.cells (cc c) 27))
    clear hg hst KC HL
    generalize w1.alloc (.cells (cc c) 27) = W at *
    have r1 := HC.out.row
    have o1 := HC.out.open
    have l1 := HC.out.lt
    cases hok : mOk F with
    | false =>
      as_aux_lemma =>
        have HOK := Lib.hid hok
        clear hok
        go_wp2_with fail
        refine (pnew_bad c af nf cf n F _ (HF.out.below HB.out) CK.out HOK.out HCS.out hn1 hn2).mono ?_
        rintro e w4 ⟨rfl, hb4⟩
        replace HB := Lib.hid (step_below HB.out hb4)
        replace HC := Lib.hid (HC.out.below hb4 HC.out.lt)
        clear hb4 r1 o1 l1
        have r1 := HC.out.row
        have o1 := HC.out.open
        have l1 := HC.out.lt
        go_wp2_with fail
        refine (rnew_bad c af nf cf F _ (HF.out.below HB.out) (by omega) CK.out HOK.out).mono ?_
        rintro e w5 ⟨rfl, hb5⟩
        replace HB := Lib.hid (step_below HB.out hb5)
        clear hb5 r1 o1 l1 HC
        go_wp2_with fail
        refine (pawake_any _).mono ?_
        rintro e w6 ⟨rfl, hb⟩
        replace HB := Lib.hid (step_below HB.out hb)
        clear hb
        go_wp2_with fail
        go_ret
        exact ⟨rfl, HB.out⟩
    | true =>
    have HOK := Lib.hid hok
    clear hok
    go_wp2_with fail
    refine (pnew_any c af nf cf n N F _ (HF.out.below HB.out) HOK.out CK.out HCS.out HCV.out hn1 hn2 hN1 hN2).mono ?_
    rintro e w4 ⟨p, t, lv, sv, rfl, hP, hb4⟩
    have HGB := Lib.hid (show g < W.heap.size from HC.out.lt)
    have HBB := Lib.hid HB.out.size
    replace HB := Lib.hid (step_below HB.out hb4)
    replace HC := Lib.hid (HC.out.below hb4 HC.out.lt)
    have HP := Lib.hid hP
    have HWW := Lib.hid hb4.size
    clear hP hb4 r1 o1 l1
    have r1 := HC.out.row
    have o1 := HC.out.open
    have l1 := HC.out.lt
    go_wp2_with fail
    refine (rnew_any c af nf cf n N F _ (HF.out.below HB.out) HOK.out CK.out HCS.out HCV.out hn1 hn2 hN1 hN2).mono ?_
    rintro e w5 ⟨p2, t2, mv, sv2, rfl, hR, hb5⟩
    have HBB2 := Lib.hid HB.out.size
    replace HB := Lib.hid (step_below HB.out hb5)
    replace HC := Lib.hid (HC.out.below hb5 HC.out.lt)
    replace HP := Lib.hid (HP.out.below hb5)
    have HSL := Lib.hid (fillR_len [] F n HOK.out)
    have HI := Lib.hid (show AI w w5 g W.heap.size p t w4.heap.size p2 t2 N n 0 c from ⟨0, 0, _, _, lv, sv, mv, F, _,
      { po := HP.out, rp := hR, cf := HC.out, bel := HB.out
        ra := ⟨by simp, by simp, (fun j x r hx hr => by
          rw [List.getElem?_set, List.getElem?_replicate] at hx hr
          by_cases hj : 0 = j
          · rw [if_pos hj] at hx hr
            split at hx
            · split at hr
              · simp only [Option.some.injEq] at hx hr
                rw [← hx, ← hr]
                exact ⟨rfl, rfl, rfl⟩
              · cases hr
            · cases hx
          · rw [if_neg hj] at hx hr
            split at hx
            · rename_i hjN
              rw [if_pos hjN] at hr
              simp only [Option.some.injEq] at hx hr
              rw [← hx, ← hr]
              exact ⟨rfl, rfl, rfl⟩
            · cases hx), (fun j x hx => by
          rw [List.getElem?_set, List.getElem?_replicate] at hx
          by_cases hj : 0 = j
          · rw [if_pos hj] at hx
            split at hx
            · simp only [Option.some.injEq] at hx
              rw [← hx]
              exact ⟨HSL.out, Nat.le_refl _⟩
            · cases hx
          · rw [if_neg hj] at hx
            split at hx
            · simp only [Option.some.injEq] at hx
              rw [← hx]
              exact ⟨.inl rfl, Nat.le_refl _⟩
            · cases hx)⟩
        ls := ⟨_, by rw [List.getElem?_set_self]; rw [List.length_replicate]; omega, rfl⟩
        wl := fun x hx => wOk_of ((mOk_w HOK.out).2 x hx)
        ll := by have := (mOk_w HOK.out).1; omega }⟩)
    clear hR hb5 HP HSL r1 o1 l1 HC HB
    generalize W.heap.size = B at *
    generalize w4.heap.size = B2 at *
    go_wp2_with fail
    go_loopw [11, 12, 13, 14, 15, 16, 17, 18, 19, 20] (fun s11 _ _ _ _ _ _ _ _ _ wx => ∃ i : Nat, s11 = .int .i64 (i : Nat) ∧ i ≤ na ∧ AI w wx g B p t B2 p2 t2 N n i c) (fun s11 _ _ _ _ _ _ _ _ _ _ => na - (intOf s11).toNat)
    case atStart => exact ⟨0, rfl, Nat.zero_le _, HI.out⟩
    case round =>
      as_aux_lemma =>
        clear HI
        obtain ⟨i, rfl, hi, now, last, vs, rs, lv1, sv1, mv1, L, S, hI⟩ := hrel
        have HI := Lib.hid hI
        clear hI
        by_cases hlt : i < na
        · have hltz : (i : Int) < (na : Int) := by omega
          have hltd : decide (i < na) = true := by simpa using hlt
          obtain ⟨⟨kd, va, nn⟩, hax⟩ : ∃ a, A[i]? = some a := ⟨_, List.getElem?_eq_getElem (by rw [HA.out.1]; exact hlt)⟩
          obtain ⟨hk1, hk2, hk3⟩ := HA3.out _ (List.mem_of_getElem? hax)
          obtain ⟨ba, oa, haa, hba, hca⟩ := HA.out.2 (by omega)
          have ca0 := (HI.out.bel.cell (p := ⟨ba, oa + i * 3, none⟩) hba).trans (hca i _ hax 0 (by omega))
          have ca1 := (HI.out.bel.cell (p := ⟨ba, oa + i * 3 + 1, none⟩) hba).trans (hca i _ hax 1 (by omega))
          have ca2 := (HI.out.bel.cell (p := ⟨ba, oa + i * 3 + 2, none⟩) hba).trans (hca i _ hax 2 (by omega))
          simp only [ea, List.getElem?_cons_zero, List.getElem?_cons_succ] at ca0 ca1 ca2
          have lba : ba < wr.heap.size := Nat.lt_of_lt_of_le hba HI.out.bel.size
          subst haa
          have HK := Lib.hid (And.intro hk1 (And.intro hk2 hk3))
          clear hax hca hba hk1 hk2 hk3
          go_upto_region 14 with fail
          obtain ⟨ga, hga⟩ : ∃ ga, ga = wr.heap.size := ⟨_, rfl⟩
          rw [← hga]
          have HAC := Lib.hid (at_new wr 101 #[.int .i64 kd, .int .i64 va, .int .i64 nn] ga hga)
          replace HI := Lib.hid (HI.out.below ((Below.refl _ wr).alloc (Nat.le_refl _) (.cells #[.int .i64 kd, .int .i64 va, .int .i64 nn] 101)))
          clear hga ca0 ca1 ca2 lba
          generalize wr.alloc (.cells #[.int .i64 kd, .int .i64 va, .int .i64 nn] 101) = W6 at *
          have k0 := HAC.out.cell 0
          have k1 := HAC.out.cell 1
          have k2 := HAC.out.cell 2
          simp only [List.getElem?_toArray, List.getElem?_cons_zero, List.getElem?_cons_succ] at k0 k1 k2
          have lga := HAC.out.lt
          go_upto_block 2 with fail
          go_cut [13, 14, 15, 16] from 75 to 137 (fun _ _ _ _ wx => ∃ now last vs rs lv sv mv L S, AIb w wx g B p t B2 p2 t2 N n (i + 1) c now last vs rs lv sv mv L S ∧ At wx ga 101 #[.int .i64 kd, .int .i64 va, .int .i64 nn])
          case first =>
            as_aux_lemma =>
              have hap : ga ≠ p := HAC.out.ne HI.out.po.obj (by decide)
              have hap2 : ga ≠ p2 := HAC.out.ne HI.out.rp.obj (by decide)
              have hat : ga ≠ t := by obtain ⟨cs, hc⟩ := HI.out.po.tAt; exact HAC.out.ne hc (by decide)
              have hat2 : ga ≠ t2 := by obtain ⟨cs, hc⟩ := HI.out.rp.tAt; exact HAC.out.ne hc (by decide)
              have HNE := Lib.hid (And.intro hap (And.intro hap2 (And.intro hat hat2)))
              clear hap hap2 hat hat2
              obtain ⟨xl, hxl, hxS⟩ := HI.out.ls
              have HXL := Lib.hid (And.intro hxl hxS)
              clear hxl hxS
              by_cases h1 : kd = 1
              · as_aux_lemma =>
                  have d1 : (kd == 1) = true := by simpa using h1
                  clear h1
                  have HSN := Lib.hid (show S.length = 0 ∨ S.length = n by
                    obtain ⟨x, r, hx, hr, he1, _, _, hx1, _⟩ := HI.out.ra.get (show last < N by rw [← HI.out.ra.lenr]; exact HI.out.rp.ltl)
                    rw [HXL.out.1] at hr
                    obtain rfl := Option.some.inj hr
                    rw [← HXL.out.2, he1]; exact hx1)
                  go_wp2_with fail
                  refine (some_any va nn HK.out.2.1 _).mono ?_
                  rintro e w7 ⟨v7, rfl, hs7, hb7⟩
                  have HS7 := Lib.hid hs7
                  obtain ⟨a7, c7, hv7⟩ := hs7.form
                  obtain ⟨l7, hl7⟩ : ∃ l, l = (som va nn).length := ⟨_, rfl⟩
                  rw [← hl7] at hv7
                  subst hv7
                  have HBS7 := Lib.hid hb7
                  clear hs7 hl7 hb7
                  go_wp2_with fail
                  replace HI := Lib.hid (HI.out.below HBS7.out)
                  replace HAC := Lib.hid (HAC.out.below HBS7.out HAC.out.lt)
                  have k1 := HAC.out.cell 1
                  have k2 := HAC.out.cell 2
                  simp only [List.getElem?_toArray, List.getElem?_cons_zero, List.getElem?_cons_succ] at k1 k2
                  by_cases hfull : ∀ z : Nat, z < N → liveB vs now (z : Int) = true
                  · have HFU := Lib.hid hfull
                    clear hfull
                    refine (reserve_full a7 l7 c7 _ n (som va nn) HI.out.po HS7.out (som_ok _ _) HCS.out hn1 hn2 HSN.out (fun z hz => HFU.out z (by rw [← HI.out.ra.len]; exact hz))).mono ?_
                    rintro e w8 ⟨rfl, hb8⟩
                    replace HI := Lib.hid (HI.out.below hb8)
                    replace HAC := Lib.hid (HAC.out.below hb8 HAC.out.lt)
                    have k1 := HAC.out.cell 1
                    have k2 := HAC.out.cell 2
                    simp only [List.getElem?_toArray, List.getElem?_cons_zero, List.getElem?_cons_succ] at k1 k2
                    have lga8 := HAC.out.lt
                    clear hb8
                    go_wp2_with fail
                    refine (some_any va nn HK.out.2.1 _).mono ?_
                    rintro e w9 ⟨v9, rfl, hs9, hb9⟩
                    have HS9 := Lib.hid hs9
                    obtain ⟨a9, c9, hv9⟩ := hs9.form
                    obtain ⟨l9, hl9⟩ : ∃ l, l = (som va nn).length := ⟨_, rfl⟩
                    rw [← hl9] at hv9
                    subst hv9
                    have HBS9 := Lib.hid hb9
                    clear hs9 hl9 hb9
                    go_wp2_with fail
                    replace HI := Lib.hid (HI.out.below HBS9.out)
                    replace HAC := Lib.hid (HAC.out.below HBS9.out HAC.out.lt)
                    refine (rreserve_full a9 l9 c9 _ (som va nn) xl HI.out.rp HS9.out (som_ok _ _) HCS.out hn1 hn2 HXL.out.1 (by rw [HXL.out.2]; exact HSN.out) (fun z hz => by rw [HI.out.ra.live]; exact HFU.out z (by rw [← HI.out.ra.lenr]; exact hz))).mono ?_
                    rintro e w10 ⟨rfl, hb10⟩
                    replace HI := Lib.hid (HI.out.below hb10)
                    replace HAC := Lib.hid (HAC.out.below hb10 HAC.out.lt)
                    clear hb10
                    go_wp2_with fail
                    go_meet
                    exact ⟨now, last, vs, rs, lv1, sv1, mv1, L, S, HI.out.mono (by omega), HAC.out⟩
                  · obtain ⟨k, hk, hk0, hk1⟩ := first_ex (f := fun z : Nat => liveB vs now (z : Int)) hfull
                    have HKK := Lib.hid (And.intro hk0 hk1)
                    have hkk : ((k : Int) != (k : Int)) = false := by simp
                    clear hfull hk0 hk1
                    refine (reserve_at a7 l7 c7 _ n k (som va nn) HI.out.po HS7.out (som_ok _ _) HCS.out hn1 hn2 HSN.out (by rw [HI.out.ra.len]; exact hk) HKK.out.2 HKK.out.1).mono ?_
                    rintro e w8 ⟨rfl, lv8, sv8, hp8, hm1⟩
                    have HM1 := Lib.hid hm1
                    have HP8 := Lib.hid hp8
                    have HR8 := Lib.hid (HI.out.rp.md HI.out.po hm1)
                    have HAC8 := Lib.hid (HAC.out.mod hm1 (by have := HNE.out; omega))
                    have k1 := HAC8.out.cell 1
                    have k2 := HAC8.out.cell 2
                    simp only [List.getElem?_toArray, List.getElem?_cons_zero, List.getElem?_cons_succ] at k1 k2
                    have lga8 := HAC8.out.lt
                    clear hp8 hm1
                    go_wp2_with fail
                    refine (some_any va nn HK.out.2.1 _).mono ?_
                    rintro e w9 ⟨v9, rfl, hs9, hb9⟩
                    have HS9 := Lib.hid hs9
                    obtain ⟨a9, c9, hv9⟩ := hs9.form
                    obtain ⟨l9, hl9⟩ : ∃ l, l = (som va nn).length := ⟨_, rfl⟩
                    rw [← hl9] at hv9
                    subst hv9
                    have HBS9 := Lib.hid hb9
                    clear hs9 hl9 hb9
                    go_wp2_with fail
                    have HR9 := Lib.hid (HR8.out.below HBS9.out)
                    have HAC9 := Lib.hid (HAC8.out.below HBS9.out HAC8.out.lt)
                    refine (rreserve_at a9 l9 c9 _ k (som va nn) xl HR9.out HS9.out (som_ok _ _) HCS.out hn1 hn2 HXL.out.1 (by rw [HXL.out.2]; exact HSN.out) (by rw [HI.out.ra.lenr]; exact hk) (fun z hz => by rw [HI.out.ra.live]; exact HKK.out.2 z hz) (by rw [HI.out.ra.live]; exact HKK.out.1)).mono ?_
                    rintro e w10 ⟨rfl, mv10, sv10, hr10, hm2⟩
                    have HM2 := Lib.hid hm2
                    have HR10 := Lib.hid hr10
                    clear hr10 hm2
                    go_wp2_with fail
                    go_meet
                    exact ⟨now, k, _, _, lv8, sv8, mv10, som va nn, fillR S (som va nn) n, HI.out.two HGB.out (Nat.lt_of_lt_of_le HGB.out HWW.out) HBB.out HBB2.out HM1.out HP8.out HBS9.out HM2.out HR10.out (HI.out.ra.set (by omega) ⟨by simp only; rw [HXL.out.2], rfl, rfl⟩ ⟨fillR_len S (som va nn) n (som_ok _ _), by simp⟩) ⟨_, List.getElem?_set_self (by rw [HI.out.ra.lenr]; exact hk), by simp only; rw [HXL.out.2]⟩ (fun z hz => wOk_of (som_w va nn z hz)) (by rw [som_len]; omega), HAC9.out.mod HM2.out (by have := HNE.out; omega)⟩
              have d1 : (kd == 1) = false := by simpa using h1
              by_cases h2 : kd = 2
              · as_aux_lemma =>
                  have d2 : (kd == 2) = true := by simpa using h2
                  clear h1 h2
                  by_cases hvr : 0 ≤ va ∧ va < (N : Int)
                  case neg =>
                    have HQ := Lib.hid (show liveB vs now va = false by
                      by_cases h0 : va < 0
                      · exact liveB_neg h0
                      · exact liveB_big (by have := HI.out.ra.len; omega))
                    have HV := Lib.hid (show va < 0 ∨ (rs.length : Int) ≤ va by have := HI.out.ra.lenr; omega)
                    clear hvr
                    go_wp2_with fail
                    refine region_sq (fun z => z ≠ ga) [(0, true), (1, true), (2, true), (4, true), (5, true), (6, true), (3, false), (7, false), (8, true)] (by kernel_rfl) (by kernel_rfl) (fun _ _ d _ _ h => by cases d <;> exact h) ?_
                    repeat (first
                      | (refine sq_yes rfl (by rfl) (fun w' hM => by ((try replace hM := hM.of_drew); obtain ⟨hR1, hR2, hR3⟩ := hM.rules; have hA := hM.agg; obtain ⟨hA1, hA2⟩ := hA; clear hM; go_simp; with_reducible rfl)) ?_; simp only [Act.put, List.setIfInBounds_toArray, List.set_cons_zero, List.set_cons_succ])
                      | (refine sq_no rfl (by rfl) ?_; simp only [Act.put, List.setIfInBounds_toArray, List.set_cons_zero, List.set_cons_succ]))
                    refine sq_do_yes rfl (by rfl) (fun K hK => ?_)
                    go_wp2_with fail
                    refine (serve_no HI.out.drew.po va HQ.out).mono ?_
                    rintro e w7 ⟨rfl, rfl⟩
                    go_wp2_with fail
                    refine ⟨Mod.refl _ _, ?_⟩
                    repeat (first
                      | (refine sq_yes rfl (by rfl) (fun w' hM => by ((try replace hM := hM.of_drew); obtain ⟨hR1, hR2, hR3⟩ := hM.rules; have hA := hM.agg; obtain ⟨hA1, hA2⟩ := hA; clear hM; go_simp; with_reducible rfl)) ?_; simp only [Act.put, List.setIfInBounds_toArray, List.set_cons_zero, List.set_cons_succ])
                      | (refine sq_no rfl (by rfl) ?_; simp only [Act.put, List.setIfInBounds_toArray, List.set_cons_zero, List.set_cons_succ]))
                    refine sq_do_yes rfl (by rfl) (fun K hK => ?_)
                    go_wp2_with fail
                    refine (rserve_bad HI.out.drew.rp va HV.out).mono ?_
                    rintro e w8 ⟨rfl, rfl⟩
                    go_wp2_with fail
                    refine ⟨Mod.refl _ _, ?_⟩
                    repeat (first
                      | (refine sq_yes rfl (by rfl) (fun w' hM => by ((try replace hM := hM.of_drew); obtain ⟨hR1, hR2, hR3⟩ := hM.rules; have hA := hM.agg; obtain ⟨hA1, hA2⟩ := hA; clear hM; go_simp; with_reducible rfl)) ?_; simp only [Act.put, List.setIfInBounds_toArray, List.set_cons_zero, List.set_cons_succ])
                      | (refine sq_no rfl (by rfl) ?_; simp only [Act.put, List.setIfInBounds_toArray, List.set_cons_zero, List.set_cons_succ]))
                    refine sq_end ?_
                    go_wp2_with fail
                    go_meet
                    exact ⟨now, last, vs, rs, lv1, sv1, mv1, L, S, HI.out.drew.mono (by omega), HAC.out.drew⟩
                  obtain ⟨j, rfl⟩ : ∃ j : Nat, va = j := ⟨va.toNat, by omega⟩
                  obtain ⟨x, r, hx, hr, he1, he2, he3, hx1, hx2⟩ := HI.out.ra.get (show j < N by omega)
                  have HX := Lib.hid hx
                  have HR := Lib.hid hr
                  have HE := Lib.hid (And.intro he1 (And.intro he2 he3))
                  have HXS := Lib.hid (And.intro hx1 hx2)
                  have HLJ := Lib.hid (liveB_at (now := now) hx)
                  clear hx hr he1 he2 he3 hx1 hx2 hvr
                  cases hxr : x.res with
                  | false =>
                    have HXR := Lib.hid hxr
                    clear hxr
                    cases hq : liveB vs now (j : Int) with
                    | false =>
                      have HQ := Lib.hid hq
                      clear hq
                      go_wp2_with fail
                      refine region_sq (fun z => z ≠ ga) [(0, true), (1, true), (2, true), (4, true), (5, true), (6, true), (3, false), (7, false), (8, true)] (by kernel_rfl) (by kernel_rfl) (fun _ _ d _ _ h => by cases d <;> exact h) ?_
                      repeat (first
                        | (refine sq_yes rfl (by rfl) (fun w' hM => by ((try replace hM := hM.of_drew); obtain ⟨hR1, hR2, hR3⟩ := hM.rules; have hA := hM.agg; obtain ⟨hA1, hA2⟩ := hA; clear hM; go_simp; with_reducible rfl)) ?_; simp only [Act.put, List.setIfInBounds_toArray, List.set_cons_zero, List.set_cons_succ])
                        | (refine sq_no rfl (by rfl) ?_; simp only [Act.put, List.setIfInBounds_toArray, List.set_cons_zero, List.set_cons_succ]))
                      refine sq_do_yes rfl (by rfl) (fun K hK => ?_)
                      go_wp2_with fail
                      refine (serve_no HI.out.drew.po j HQ.out).mono ?_
                      rintro e w7 ⟨rfl, rfl⟩
                      go_wp2_with fail
                      refine ⟨Mod.refl _ _, ?_⟩
                      repeat (first
                        | (refine sq_yes rfl (by rfl) (fun w' hM => by ((try replace hM := hM.of_drew); obtain ⟨hR1, hR2, hR3⟩ := hM.rules; have hA := hM.agg; obtain ⟨hA1, hA2⟩ := hA; clear hM; go_simp; with_reducible rfl)) ?_; simp only [Act.put, List.setIfInBounds_toArray, List.set_cons_zero, List.set_cons_succ])
                        | (refine sq_no rfl (by rfl) ?_; simp only [Act.put, List.setIfInBounds_toArray, List.set_cons_zero, List.set_cons_succ]))
                      refine sq_do_yes rfl (by rfl) (fun K hK => ?_)
                      go_wp2_with fail
                      refine (rserve_any HI.out.drew.rp j r HR.out).mono ?_
                      rintro e w8 (⟨_, rfl, rfl⟩ | ⟨h, _⟩)
                      case inr => rw [HE.out.2.2, HXR.out] at h; cases h
                      go_wp2_with fail
                      refine ⟨Mod.refl _ _, ?_⟩
                      repeat (first
                        | (refine sq_yes rfl (by rfl) (fun w' hM => by ((try replace hM := hM.of_drew); obtain ⟨hR1, hR2, hR3⟩ := hM.rules; have hA := hM.agg; obtain ⟨hA1, hA2⟩ := hA; clear hM; go_simp; with_reducible rfl)) ?_; simp only [Act.put, List.setIfInBounds_toArray, List.set_cons_zero, List.set_cons_succ])
                        | (refine sq_no rfl (by rfl) ?_; simp only [Act.put, List.setIfInBounds_toArray, List.set_cons_zero, List.set_cons_succ]))
                      refine sq_end ?_
                      go_wp2_with fail
                      go_meet
                      exact ⟨now, last, vs, rs, lv1, sv1, mv1, L, S, HI.out.drew.mono (by omega), HAC.out.drew⟩
                    | true =>
                      have HQ := Lib.hid hq
                      clear hq
                      go_wp2_with fail
                      refine region_sq (fun z => z ≠ ga) [(0, true), (1, true), (2, true), (4, true), (5, true), (6, true), (3, false), (7, false), (8, true)] (by kernel_rfl) (by kernel_rfl) (fun _ _ d _ _ h => by cases d <;> exact h) ?_
                      repeat (first
                        | (refine sq_yes rfl (by rfl) (fun w' hM => by ((try replace hM := hM.of_drew); obtain ⟨hR1, hR2, hR3⟩ := hM.rules; have hA := hM.agg; obtain ⟨hA1, hA2⟩ := hA; clear hM; go_simp; with_reducible rfl)) ?_; simp only [Act.put, List.setIfInBounds_toArray, List.set_cons_zero, List.set_cons_succ])
                        | (refine sq_no rfl (by rfl) ?_; simp only [Act.put, List.setIfInBounds_toArray, List.set_cons_zero, List.set_cons_succ]))
                      refine sq_do_yes rfl (by rfl) (fun K hK => ?_)
                      go_wp2_with fail
                      refine (serve_any HI.out.drew.po j x HX.out HQ.out).mono ?_
                      rintro e w7 (⟨_, rfl, rfl⟩ | ⟨h, _⟩)
                      case inr => rw [HXR.out] at h; cases h
                      go_wp2_with fail
                      refine ⟨Mod.refl _ _, ?_⟩
                      repeat (first
                        | (refine sq_yes rfl (by rfl) (fun w' hM => by ((try replace hM := hM.of_drew); obtain ⟨hR1, hR2, hR3⟩ := hM.rules; have hA := hM.agg; obtain ⟨hA1, hA2⟩ := hA; clear hM; go_simp; with_reducible rfl)) ?_; simp only [Act.put, List.setIfInBounds_toArray, List.set_cons_zero, List.set_cons_succ])
                        | (refine sq_no rfl (by rfl) ?_; simp only [Act.put, List.setIfInBounds_toArray, List.set_cons_zero, List.set_cons_succ]))
                      refine sq_do_yes rfl (by rfl) (fun K hK => ?_)
                      go_wp2_with fail
                      refine (rserve_any HI.out.drew.rp j r HR.out).mono ?_
                      rintro e w8 (⟨_, rfl, rfl⟩ | ⟨h, _⟩)
                      case inr => rw [HE.out.2.2, HXR.out] at h; cases h
                      go_wp2_with fail
                      refine ⟨Mod.refl _ _, ?_⟩
                      repeat (first
                        | (refine sq_yes rfl (by rfl) (fun w' hM => by ((try replace hM := hM.of_drew); obtain ⟨hR1, hR2, hR3⟩ := hM.rules; have hA := hM.agg; obtain ⟨hA1, hA2⟩ := hA; clear hM; go_simp; with_reducible rfl)) ?_; simp only [Act.put, List.setIfInBounds_toArray, List.set_cons_zero, List.set_cons_succ])
                        | (refine sq_no rfl (by rfl) ?_; simp only [Act.put, List.setIfInBounds_toArray, List.set_cons_zero, List.set_cons_succ]))
                      refine sq_end ?_
                      go_wp2_with fail
                      go_meet
                      exact ⟨now, last, vs, rs, lv1, sv1, mv1, L, S, HI.out.drew.mono (by omega), HAC.out.drew⟩
                  | true =>
                    have HXR := Lib.hid hxr
                    have HQ := Lib.hid (show liveB vs now (j : Int) = true by rw [HLJ.out, hxr]; simp)
                    clear hxr
                    go_wp2_with fail
                    refine region_sq (fun z => z ≠ ga) [(0, true), (1, true), (2, true), (4, true), (5, true), (6, true), (3, false), (7, false), (8, true)] (by kernel_rfl) (by kernel_rfl) (fun _ _ d _ _ h => by cases d <;> exact h) ?_
                    repeat (first
                      | (refine sq_yes rfl (by rfl) (fun w' hM => by ((try replace hM := hM.of_drew); obtain ⟨hR1, hR2, hR3⟩ := hM.rules; have hA := hM.agg; obtain ⟨hA1, hA2⟩ := hA; clear hM; go_simp; with_reducible rfl)) ?_; simp only [Act.put, List.setIfInBounds_toArray, List.set_cons_zero, List.set_cons_succ])
                      | (refine sq_no rfl (by rfl) ?_; simp only [Act.put, List.setIfInBounds_toArray, List.set_cons_zero, List.set_cons_succ]))
                    refine sq_do_yes rfl (by rfl) (fun K hK => ?_)
                    go_wp2_with fail
                    refine (serve_any HI.out.drew.po j x HX.out HQ.out).mono ?_
                    rintro e w7 (⟨h, _⟩ | ⟨_, rfl, hp7, hm1⟩)
                    · rw [HXR.out] at h; cases h
                    have HM1 := Lib.hid hm1
                    have HP7 := Lib.hid hp7
                    have HR7 := Lib.hid (HI.out.drew.rp.md HI.out.drew.po hm1)
                    have HAC7 := Lib.hid (HAC.out.drew.mod hm1 (by have := HNE.out; omega))
                    clear hp7
                    go_wp2_with fail
                    refine ⟨(hm1.mono (fun z _ hz => by rcases hz with rfl | rfl; exact fun e => HNE.out.1 e.symm; exact fun e => HNE.out.2.2.1 e.symm)), ?_⟩
                    clear hm1
                    repeat (first
                      | (refine sq_yes rfl (by rfl) (fun w' hM => by ((try replace hM := hM.of_drew); obtain ⟨hR1, hR2, hR3⟩ := hM.rules; have hA := hM.agg; obtain ⟨hA1, hA2⟩ := hA; clear hM; go_simp; with_reducible rfl)) ?_; simp only [Act.put, List.setIfInBounds_toArray, List.set_cons_zero, List.set_cons_succ])
                      | (refine sq_no rfl (by rfl) ?_; simp only [Act.put, List.setIfInBounds_toArray, List.set_cons_zero, List.set_cons_succ]))
                    refine sq_do_yes rfl (by rfl) (fun K hK => ?_)
                    go_wp2_with fail
                    refine (rserve_any HR7.out j r HR.out).mono ?_
                    rintro e w8 (⟨h, _⟩ | ⟨_, rfl, hr8, hm2⟩)
                    · rw [HE.out.2.2, HXR.out] at h; cases h
                    have HM2 := Lib.hid hm2
                    have HR8 := Lib.hid hr8
                    clear hr8
                    go_wp2_with fail
                    refine ⟨(hm2.mono (fun z _ hz => by rcases hz with rfl | rfl; exact fun e => HNE.out.2.1 e.symm; exact fun e => HNE.out.2.2.2 e.symm)), ?_⟩
                    clear hm2
                    repeat (first
                      | (refine sq_yes rfl (by rfl) (fun w' hM => by ((try replace hM := hM.of_drew); obtain ⟨hR1, hR2, hR3⟩ := hM.rules; have hA := hM.agg; obtain ⟨hA1, hA2⟩ := hA; clear hM; go_simp; with_reducible rfl)) ?_; simp only [Act.put, List.setIfInBounds_toArray, List.set_cons_zero, List.set_cons_succ])
                      | (refine sq_no rfl (by rfl) ?_; simp only [Act.put, List.setIfInBounds_toArray, List.set_cons_zero, List.set_cons_succ]))
                    refine sq_end ?_
                    go_wp2_with fail
                    go_meet
                    have hr := HR.out
                    obtain ⟨hxl, hxS⟩ := HXL.out
                    exact ⟨j, last, _, _, lv1, sv1, mv1, L, S, HI.out.drew.two HGB.out (Nat.lt_of_lt_of_le HGB.out HWW.out) HBB.out HBB2.out HM1.out HP7.out (Below.refl _ _) HM2.out HR8.out (HI.out.ra.set (by omega) ⟨HE.out.1, HE.out.2.1, rfl⟩ ⟨HXS.out.1, by have := HXS.out.2; simp only; omega⟩) (by
                        by_cases e : last = j
                        · subst e
                          rw [hr] at hxl
                          obtain rfl := Option.some.inj hxl
                          exact ⟨_, List.getElem?_set_self (List.getElem?_eq_some_iff.1 hr).1, hxS⟩
                        · exact ⟨xl, by rw [List.getElem?_set_ne (fun h => e h.symm)]; exact hxl, hxS⟩) HI.out.wl HI.out.ll, HAC7.out.mod HM2.out (by have := HNE.out; omega)⟩
              have d2 : (kd == 2) = false := by simpa using h2
              by_cases h3 : kd = 3
              · as_aux_lemma =>
                  have d3 : (kd == 3) = true := by simpa using h3
                  clear h1 h2 h3
                  cases hq : liveB vs now va with
                  | false =>
                    have HQ := Lib.hid hq
                    have HQ2 := Lib.hid (show liveB (rvs rs) now va = false by rw [HI.out.ra.live]; exact hq)
                    clear hq
                    go_wp2_with fail
                    refine region_sq (fun z => z ≠ ga) [(0, true), (1, true), (2, true), (4, true), (5, true), (6, true), (3, false), (7, false), (8, true)] (by kernel_rfl) (by kernel_rfl) (fun _ _ d _ _ h => by cases d <;> exact h) ?_
                    repeat (first
                      | (refine sq_yes rfl (by rfl) (fun w' hM => by ((try replace hM := hM.of_drew); obtain ⟨hR1, hR2, hR3⟩ := hM.rules; have hA := hM.agg; obtain ⟨hA1, hA2⟩ := hA; clear hM; go_simp; with_reducible rfl)) ?_; simp only [Act.put, List.setIfInBounds_toArray, List.set_cons_zero, List.set_cons_succ])
                      | (refine sq_no rfl (by rfl) ?_; simp only [Act.put, List.setIfInBounds_toArray, List.set_cons_zero, List.set_cons_succ]))
                    refine sq_do_yes rfl (by rfl) (fun K hK => ?_)
                    go_wp2_with fail
                    refine (ref_no HI.out.drew.po va HQ.out).mono ?_
                    rintro e w7 ⟨rfl, rfl⟩
                    go_wp2_with fail
                    refine ⟨Mod.refl _ _, ?_⟩
                    repeat (first
                      | (refine sq_yes rfl (by rfl) (fun w' hM => by ((try replace hM := hM.of_drew); obtain ⟨hR1, hR2, hR3⟩ := hM.rules; have hA := hM.agg; obtain ⟨hA1, hA2⟩ := hA; clear hM; go_simp; with_reducible rfl)) ?_; simp only [Act.put, List.setIfInBounds_toArray, List.set_cons_zero, List.set_cons_succ])
                      | (refine sq_no rfl (by rfl) ?_; simp only [Act.put, List.setIfInBounds_toArray, List.set_cons_zero, List.set_cons_succ]))
                    refine sq_do_yes rfl (by rfl) (fun K hK => ?_)
                    go_wp2_with fail
                    refine (rref_no HI.out.drew.rp va HQ2.out).mono ?_
                    rintro e w8 ⟨rfl, rfl⟩
                    go_wp2_with fail
                    refine ⟨Mod.refl _ _, ?_⟩
                    repeat (first
                      | (refine sq_yes rfl (by rfl) (fun w' hM => by ((try replace hM := hM.of_drew); obtain ⟨hR1, hR2, hR3⟩ := hM.rules; have hA := hM.agg; obtain ⟨hA1, hA2⟩ := hA; clear hM; go_simp; with_reducible rfl)) ?_; simp only [Act.put, List.setIfInBounds_toArray, List.set_cons_zero, List.set_cons_succ])
                      | (refine sq_no rfl (by rfl) ?_; simp only [Act.put, List.setIfInBounds_toArray, List.set_cons_zero, List.set_cons_succ]))
                    refine sq_end ?_
                    go_wp2_with fail
                    go_meet
                    exact ⟨now, last, vs, rs, lv1, sv1, mv1, L, S, HI.out.drew.mono (by omega), HAC.out.drew⟩
                  | true =>
                    have hvr : 0 ≤ va ∧ va < (N : Int) := by
                      by_cases h0 : va < 0
                      · rw [liveB_neg h0] at hq; cases hq
                      · by_cases h1 : (vs.length : Int) ≤ va
                        · rw [liveB_big h1] at hq; cases hq
                        · have := HI.out.ra.len; omega
                    obtain ⟨j, rfl⟩ : ∃ j : Nat, va = j := ⟨va.toNat, by omega⟩
                    obtain ⟨x, r, hx, hr, he1, he2, he3, hx1, hx2⟩ := HI.out.ra.get (show j < N by omega)
                    have HQ := Lib.hid hq
                    have HQ2 := Lib.hid (show liveB (rvs rs) now (j : Int) = true by rw [HI.out.ra.live]; exact hq)
                    have HX := Lib.hid hx
                    have HR := Lib.hid hr
                    have HE := Lib.hid (And.intro he1 (And.intro he2 he3))
                    have HXS := Lib.hid (And.intro hx1 hx2)
                    have hrk : x.refs < 1000000 := by omega
                    have hrk2 : r.refs < 1000000 := by omega
                    clear hq hx hr he1 he2 he3 hx1 hx2 hvr
                    go_wp2_with fail
                    refine region_sq (fun z => z ≠ ga) [(0, true), (1, true), (2, true), (4, true), (5, true), (6, true), (3, false), (7, false), (8, true)] (by kernel_rfl) (by kernel_rfl) (fun _ _ d _ _ h => by cases d <;> exact h) ?_
                    repeat (first
                      | (refine sq_yes rfl (by rfl) (fun w' hM => by ((try replace hM := hM.of_drew); obtain ⟨hR1, hR2, hR3⟩ := hM.rules; have hA := hM.agg; obtain ⟨hA1, hA2⟩ := hA; clear hM; go_simp; with_reducible rfl)) ?_; simp only [Act.put, List.setIfInBounds_toArray, List.set_cons_zero, List.set_cons_succ])
                      | (refine sq_no rfl (by rfl) ?_; simp only [Act.put, List.setIfInBounds_toArray, List.set_cons_zero, List.set_cons_succ]))
                    refine sq_do_yes rfl (by rfl) (fun K hK => ?_)
                    go_wp2_with fail
                    refine (ref_yes HI.out.drew.po j x HX.out HQ.out hrk).mono ?_
                    rintro e w7 ⟨rfl, hp7, hm1⟩
                    have HM1 := Lib.hid hm1
                    have HP7 := Lib.hid hp7
                    have HR7 := Lib.hid (HI.out.drew.rp.md HI.out.drew.po hm1)
                    have HAC7 := Lib.hid (HAC.out.drew.mod hm1 (by have := HNE.out; omega))
                    clear hp7
                    go_wp2_with fail
                    refine ⟨(hm1.mono (fun z _ hz => by rcases hz with rfl | rfl; exact fun e => HNE.out.1 e.symm; exact fun e => HNE.out.2.2.1 e.symm)), ?_⟩
                    clear hm1
                    repeat (first
                      | (refine sq_yes rfl (by rfl) (fun w' hM => by ((try replace hM := hM.of_drew); obtain ⟨hR1, hR2, hR3⟩ := hM.rules; have hA := hM.agg; obtain ⟨hA1, hA2⟩ := hA; clear hM; go_simp; with_reducible rfl)) ?_; simp only [Act.put, List.setIfInBounds_toArray, List.set_cons_zero, List.set_cons_succ])
                      | (refine sq_no rfl (by rfl) ?_; simp only [Act.put, List.setIfInBounds_toArray, List.set_cons_zero, List.set_cons_succ]))
                    refine sq_do_yes rfl (by rfl) (fun K hK => ?_)
                    go_wp2_with fail
                    refine (rref_yes HR7.out j r HR.out HQ2.out hrk2).mono ?_
                    rintro e w8 ⟨rfl, hr8, hm2⟩
                    have HM2 := Lib.hid hm2
                    have HR8 := Lib.hid hr8
                    clear hr8
                    go_wp2_with fail
                    refine ⟨(hm2.mono (fun z _ hz => by rcases hz with rfl | rfl; exact fun e => HNE.out.2.1 e.symm; exact fun e => HNE.out.2.2.2 e.symm)), ?_⟩
                    clear hm2
                    repeat (first
                      | (refine sq_yes rfl (by rfl) (fun w' hM => by ((try replace hM := hM.of_drew); obtain ⟨hR1, hR2, hR3⟩ := hM.rules; have hA := hM.agg; obtain ⟨hA1, hA2⟩ := hA; clear hM; go_simp; with_reducible rfl)) ?_; simp only [Act.put, List.setIfInBounds_toArray, List.set_cons_zero, List.set_cons_succ])
                      | (refine sq_no rfl (by rfl) ?_; simp only [Act.put, List.setIfInBounds_toArray, List.set_cons_zero, List.set_cons_succ]))
                    refine sq_end ?_
                    go_wp2_with fail
                    go_meet
                    have hr := HR.out
                    obtain ⟨hxl, hxS⟩ := HXL.out
                    exact ⟨now, last, _, _, lv1, sv1, mv1, L, S, HI.out.drew.two HGB.out (Nat.lt_of_lt_of_le HGB.out HWW.out) HBB.out HBB2.out HM1.out HP7.out (Below.refl _ _) HM2.out HR8.out (HI.out.ra.set (by omega) ⟨HE.out.1, by simp only; rw [HE.out.2.1], HE.out.2.2⟩ ⟨HXS.out.1, by have := HXS.out.2; simp only; omega⟩) (by
                        by_cases e : last = j
                        · subst e
                          rw [hr] at hxl
                          obtain rfl := Option.some.inj hxl
                          exact ⟨_, List.getElem?_set_self (List.getElem?_eq_some_iff.1 hr).1, hxS⟩
                        · exact ⟨xl, by rw [List.getElem?_set_ne (fun h => e h.symm)]; exact hxl, hxS⟩) HI.out.wl HI.out.ll, HAC7.out.mod HM2.out (by have := HNE.out; omega)⟩
              have d3 : (kd == 3) = false := by simpa using h3
              by_cases h4 : kd = 4
              · as_aux_lemma =>
                  have d4 : (kd == 4) = true := by simpa using h4
                  clear h1 h2 h3 h4
                  cases hq : liveB vs now va with
                  | false =>
                    have HQ := Lib.hid hq
                    have HQ2 := Lib.hid (show liveB (rvs rs) now va = false by rw [HI.out.ra.live]; exact hq)
                    clear hq
                    go_wp2_with fail
                    refine region_sq (fun z => z ≠ ga) [(0, true), (1, true), (2, true), (4, true), (5, true), (6, true), (3, false), (7, false), (8, true)] (by kernel_rfl) (by kernel_rfl) (fun _ _ d _ _ h => by cases d <;> exact h) ?_
                    repeat (first
                      | (refine sq_yes rfl (by rfl) (fun w' hM => by ((try replace hM := hM.of_drew); obtain ⟨hR1, hR2, hR3⟩ := hM.rules; have hA := hM.agg; obtain ⟨hA1, hA2⟩ := hA; clear hM; go_simp; with_reducible rfl)) ?_; simp only [Act.put, List.setIfInBounds_toArray, List.set_cons_zero, List.set_cons_succ])
                      | (refine sq_no rfl (by rfl) ?_; simp only [Act.put, List.setIfInBounds_toArray, List.set_cons_zero, List.set_cons_succ]))
                    refine sq_do_yes rfl (by rfl) (fun K hK => ?_)
                    go_wp2_with fail
                    refine (unref_no HI.out.drew.po va HQ.out).mono ?_
                    rintro e w7 ⟨rfl, rfl⟩
                    go_wp2_with fail
                    refine ⟨Mod.refl _ _, ?_⟩
                    repeat (first
                      | (refine sq_yes rfl (by rfl) (fun w' hM => by ((try replace hM := hM.of_drew); obtain ⟨hR1, hR2, hR3⟩ := hM.rules; have hA := hM.agg; obtain ⟨hA1, hA2⟩ := hA; clear hM; go_simp; with_reducible rfl)) ?_; simp only [Act.put, List.setIfInBounds_toArray, List.set_cons_zero, List.set_cons_succ])
                      | (refine sq_no rfl (by rfl) ?_; simp only [Act.put, List.setIfInBounds_toArray, List.set_cons_zero, List.set_cons_succ]))
                    refine sq_do_yes rfl (by rfl) (fun K hK => ?_)
                    go_wp2_with fail
                    refine (runref_no HI.out.drew.rp va HQ2.out).mono ?_
                    rintro e w8 ⟨rfl, rfl⟩
                    go_wp2_with fail
                    refine ⟨Mod.refl _ _, ?_⟩
                    repeat (first
                      | (refine sq_yes rfl (by rfl) (fun w' hM => by ((try replace hM := hM.of_drew); obtain ⟨hR1, hR2, hR3⟩ := hM.rules; have hA := hM.agg; obtain ⟨hA1, hA2⟩ := hA; clear hM; go_simp; with_reducible rfl)) ?_; simp only [Act.put, List.setIfInBounds_toArray, List.set_cons_zero, List.set_cons_succ])
                      | (refine sq_no rfl (by rfl) ?_; simp only [Act.put, List.setIfInBounds_toArray, List.set_cons_zero, List.set_cons_succ]))
                    refine sq_end ?_
                    go_wp2_with fail
                    go_meet
                    exact ⟨now, last, vs, rs, lv1, sv1, mv1, L, S, HI.out.drew.mono (by omega), HAC.out.drew⟩
                  | true =>
                    have hvr : 0 ≤ va ∧ va < (N : Int) := by
                      by_cases h0 : va < 0
                      · rw [liveB_neg h0] at hq; cases hq
                      · by_cases h1 : (vs.length : Int) ≤ va
                        · rw [liveB_big h1] at hq; cases hq
                        · have := HI.out.ra.len; omega
                    obtain ⟨j, rfl⟩ : ∃ j : Nat, va = j := ⟨va.toNat, by omega⟩
                    obtain ⟨x, r, hx, hr, he1, he2, he3, hx1, hx2⟩ := HI.out.ra.get (show j < N by omega)
                    have HQ := Lib.hid hq
                    have HQ2 := Lib.hid (show liveB (rvs rs) now (j : Int) = true by rw [HI.out.ra.live]; exact hq)
                    have HX := Lib.hid hx
                    have HR := Lib.hid hr
                    have HE := Lib.hid (And.intro he1 (And.intro he2 he3))
                    have HXS := Lib.hid (And.intro hx1 hx2)
                    have hrk : x.refs < 1000000 := by omega
                    have hrk2 : r.refs < 1000000 := by omega
                    clear hq hx hr he1 he2 he3 hx1 hx2 hvr
                    by_cases hz : x.refs = 0
                    · have HZ := Lib.hid hz
                      clear hz
                      go_wp2_with fail
                      refine region_sq (fun z => z ≠ ga) [(0, true), (1, true), (2, true), (4, true), (5, true), (6, true), (3, false), (7, false), (8, true)] (by kernel_rfl) (by kernel_rfl) (fun _ _ d _ _ h => by cases d <;> exact h) ?_
                      repeat (first
                        | (refine sq_yes rfl (by rfl) (fun w' hM => by ((try replace hM := hM.of_drew); obtain ⟨hR1, hR2, hR3⟩ := hM.rules; have hA := hM.agg; obtain ⟨hA1, hA2⟩ := hA; clear hM; go_simp; with_reducible rfl)) ?_; simp only [Act.put, List.setIfInBounds_toArray, List.set_cons_zero, List.set_cons_succ])
                        | (refine sq_no rfl (by rfl) ?_; simp only [Act.put, List.setIfInBounds_toArray, List.set_cons_zero, List.set_cons_succ]))
                      refine sq_do_yes rfl (by rfl) (fun K hK => ?_)
                      go_wp2_with fail
                      refine (unref_any HI.out.drew.po j x HX.out HQ.out hrk).mono ?_
                      rintro e w7 (⟨_, rfl, rfl⟩ | ⟨h, _⟩)
                      case inr => have := HZ.out; omega
                      go_wp2_with fail
                      refine ⟨Mod.refl _ _, ?_⟩
                      repeat (first
                        | (refine sq_yes rfl (by rfl) (fun w' hM => by ((try replace hM := hM.of_drew); obtain ⟨hR1, hR2, hR3⟩ := hM.rules; have hA := hM.agg; obtain ⟨hA1, hA2⟩ := hA; clear hM; go_simp; with_reducible rfl)) ?_; simp only [Act.put, List.setIfInBounds_toArray, List.set_cons_zero, List.set_cons_succ])
                        | (refine sq_no rfl (by rfl) ?_; simp only [Act.put, List.setIfInBounds_toArray, List.set_cons_zero, List.set_cons_succ]))
                      refine sq_do_yes rfl (by rfl) (fun K hK => ?_)
                      go_wp2_with fail
                      refine (runref_any HI.out.drew.rp j r HR.out HQ2.out hrk2).mono ?_
                      rintro e w8 (⟨_, rfl, rfl⟩ | ⟨h, _⟩)
                      case inr => have := HZ.out; have := HE.out.2.1; omega
                      go_wp2_with fail
                      refine ⟨Mod.refl _ _, ?_⟩
                      repeat (first
                        | (refine sq_yes rfl (by rfl) (fun w' hM => by ((try replace hM := hM.of_drew); obtain ⟨hR1, hR2, hR3⟩ := hM.rules; have hA := hM.agg; obtain ⟨hA1, hA2⟩ := hA; clear hM; go_simp; with_reducible rfl)) ?_; simp only [Act.put, List.setIfInBounds_toArray, List.set_cons_zero, List.set_cons_succ])
                        | (refine sq_no rfl (by rfl) ?_; simp only [Act.put, List.setIfInBounds_toArray, List.set_cons_zero, List.set_cons_succ]))
                      refine sq_end ?_
                      go_wp2_with fail
                      go_meet
                      exact ⟨now, last, vs, rs, lv1, sv1, mv1, L, S, HI.out.drew.mono (by omega), HAC.out.drew⟩
                    · have HZ := Lib.hid (show 0 < x.refs by omega)
                      clear hz
                      go_wp2_with fail
                      refine region_sq (fun z => z ≠ ga) [(0, true), (1, true), (2, true), (4, true), (5, true), (6, true), (3, false), (7, false), (8, true)] (by kernel_rfl) (by kernel_rfl) (fun _ _ d _ _ h => by cases d <;> exact h) ?_
                      repeat (first
                        | (refine sq_yes rfl (by rfl) (fun w' hM => by ((try replace hM := hM.of_drew); obtain ⟨hR1, hR2, hR3⟩ := hM.rules; have hA := hM.agg; obtain ⟨hA1, hA2⟩ := hA; clear hM; go_simp; with_reducible rfl)) ?_; simp only [Act.put, List.setIfInBounds_toArray, List.set_cons_zero, List.set_cons_succ])
                        | (refine sq_no rfl (by rfl) ?_; simp only [Act.put, List.setIfInBounds_toArray, List.set_cons_zero, List.set_cons_succ]))
                      refine sq_do_yes rfl (by rfl) (fun K hK => ?_)
                      go_wp2_with fail
                      refine (unref_any HI.out.drew.po j x HX.out HQ.out hrk).mono ?_
                      rintro e w7 (⟨h, _⟩ | ⟨_, rfl, hp7, hm1⟩)
                      · have := HZ.out; omega
                      have HM1 := Lib.hid hm1
                      have HP7 := Lib.hid hp7
                      have HR7 := Lib.hid (HI.out.drew.rp.md HI.out.drew.po hm1)
                      have HAC7 := Lib.hid (HAC.out.drew.mod hm1 (by have := HNE.out; omega))
                      clear hp7
                      go_wp2_with fail
                      refine ⟨(hm1.mono (fun z _ hz => by rcases hz with rfl | rfl; exact fun e => HNE.out.1 e.symm; exact fun e => HNE.out.2.2.1 e.symm)), ?_⟩
                      clear hm1
                      repeat (first
                        | (refine sq_yes rfl (by rfl) (fun w' hM => by ((try replace hM := hM.of_drew); obtain ⟨hR1, hR2, hR3⟩ := hM.rules; have hA := hM.agg; obtain ⟨hA1, hA2⟩ := hA; clear hM; go_simp; with_reducible rfl)) ?_; simp only [Act.put, List.setIfInBounds_toArray, List.set_cons_zero, List.set_cons_succ])
                        | (refine sq_no rfl (by rfl) ?_; simp only [Act.put, List.setIfInBounds_toArray, List.set_cons_zero, List.set_cons_succ]))
                      refine sq_do_yes rfl (by rfl) (fun K hK => ?_)
                      go_wp2_with fail
                      refine (runref_any HR7.out j r HR.out HQ2.out hrk2).mono ?_
                      rintro e w8 (⟨h, _⟩ | ⟨_, rfl, hr8, hm2⟩)
                      · have := HZ.out; have := HE.out.2.1; omega
                      have HM2 := Lib.hid hm2
                      have HR8 := Lib.hid hr8
                      clear hr8
                      go_wp2_with fail
                      refine ⟨(hm2.mono (fun z _ hz => by rcases hz with rfl | rfl; exact fun e => HNE.out.2.1 e.symm; exact fun e => HNE.out.2.2.2 e.symm)), ?_⟩
                      clear hm2
                      repeat (first
                        | (refine sq_yes rfl (by rfl) (fun w' hM => by ((try replace hM := hM.of_drew); obtain ⟨hR1, hR2, hR3⟩ := hM.rules; have hA := hM.agg; obtain ⟨hA1, hA2⟩ := hA; clear hM; go_simp; with_reducible rfl)) ?_; simp only [Act.put, List.setIfInBounds_toArray, List.set_cons_zero, List.set_cons_succ])
                        | (refine sq_no rfl (by rfl) ?_; simp only [Act.put, List.setIfInBounds_toArray, List.set_cons_zero, List.set_cons_succ]))
                      refine sq_end ?_
                      go_wp2_with fail
                      go_meet
                      have hr := HR.out
                      obtain ⟨hxl, hxS⟩ := HXL.out
                      exact ⟨now, last, _, _, lv1, sv1, mv1, L, S, HI.out.drew.two HGB.out (Nat.lt_of_lt_of_le HGB.out HWW.out) HBB.out HBB2.out HM1.out HP7.out (Below.refl _ _) HM2.out HR8.out (HI.out.ra.set (by omega) ⟨HE.out.1, by simp only; rw [HE.out.2.1], HE.out.2.2⟩ ⟨HXS.out.1, by have := HXS.out.2; simp only; omega⟩) (by
                          by_cases e : last = j
                          · subst e
                            rw [hr] at hxl
                            obtain rfl := Option.some.inj hxl
                            exact ⟨_, List.getElem?_set_self (List.getElem?_eq_some_iff.1 hr).1, hxS⟩
                          · exact ⟨xl, by rw [List.getElem?_set_ne (fun h => e h.symm)]; exact hxl, hxS⟩) HI.out.wl HI.out.ll, HAC7.out.mod HM2.out (by have := HNE.out; omega)⟩
              have d4 : (kd == 4) = false := by simpa using h4
              clear h1 h2 h3 h4
              go_wp2_with fail
              go_meet
              exact ⟨now, last, vs, rs, lv1, sv1, mv1, L, S, HI.out.mono (by omega), HAC.out⟩
          case rest =>
            as_aux_lemma =>
              clear HI HAC k0 k1 k2 lga
              obtain ⟨now, last, vs, rs, lv1, sv1, mv1, L, S, hI, hac⟩ := hcut
              have HI := Lib.hid hI
              have HAC := Lib.hid hac
              clear hI hac
              obtain ⟨-, c49, -, c51, lp2⟩ := HI.out.rp.cells
              obtain ⟨aM, cM, hmv⟩ := HI.out.rp.ml.form
              obtain ⟨lM, hlM⟩ : ∃ l, l = L.length := ⟨_, rfl⟩
              rw [← hlM] at hmv
              have HLM := Lib.hid (show lM ≤ 64 by rw [hlM]; exact HI.out.ll)
              subst hmv
              clear hlM
              have hnn : ((now : Int) != (now : Int)) = false := by simp
              obtain ⟨q, hq⟩ : ∃ q, q = liveTo vs now vs.length := ⟨_, rfl⟩
              have HQ := Lib.hid hq
              have HQ1 := Lib.hid (show 1 ≤ q.length by
                have hm : now ∈ q := by
                  rw [hq]
                  unfold liveTo
                  rw [List.mem_filter]
                  obtain ⟨x, hx⟩ : ∃ x, vs[now]? = some x := ⟨_, List.getElem?_eq_getElem HI.out.po.lt⟩
                  exact ⟨List.mem_range.2 HI.out.po.lt, by rw [liveB_at hx]; simp⟩
                exact List.length_pos_of_mem hm)
              have HQR := Lib.hid (show liveTo (rvs rs) now rs.length = q by rw [HI.out.ra.liveTo, HI.out.ra.lenr, ← HI.out.ra.len, hq])
              have HQL := Lib.hid (show q.length ≤ 4096 by rw [hq]; exact Nat.le_trans (liveTo_length _ _ _) HI.out.po.big)
              clear hq
              go_wp2_with fail
              refine region_sq (fun _ => False) [(0, true), (2, true), (3, true), (4, true), (5, true), (1, false), (6, true), (7, true), (8, true), (10, true), (11, true), (12, true), (13, true), (9, false), (14, false), (15, true), (16, true), (17, true), (18, true), (20, true), (19, false), (21, false), (22, false), (23, true), (24, true), (25, true), (26, true), (28, true), (27, false), (29, false), (30, true), (31, false), (32, true), (33, true)] (by kernel_rfl) (by kernel_rfl) (fun _ _ d _ _ h => by cases d <;> exact h) ?_
              repeat (first
                | (refine sq_yes rfl (by rfl) (fun w' hM => by ((try replace hM := hM.of_drew); obtain ⟨hR1, hR2, hR3⟩ := hM.rules; have hA := hM.agg; obtain ⟨hA1, hA2⟩ := hA; clear hM; go_simp; with_reducible rfl)) ?_; simp only [Act.put, List.setIfInBounds_toArray, List.set_cons_zero, List.set_cons_succ])
                | (refine sq_no rfl (by rfl) ?_; simp only [Act.put, List.setIfInBounds_toArray, List.set_cons_zero, List.set_cons_succ]))
              refine sq_do_yes rfl (by rfl) (fun K hK => ?_)
              go_wp2_with fail
              refine (now_any HI.out.drew.po).mono ?_
              rintro e w7 ⟨rfl, hw7⟩
              obtain rfl := hw7.symm
              clear hw7
              replace HI := Lib.hid HI.out.drew
              replace HAC := Lib.hid HAC.out.drew
              go_wp2_with fail
              refine ⟨Mod.refl _ _, ?_⟩
              repeat (first
                | (refine sq_yes rfl (by rfl) (fun w' hM => by ((try replace hM := hM.of_drew); obtain ⟨hR1, hR2, hR3⟩ := hM.rules; have hA := hM.agg; obtain ⟨hA1, hA2⟩ := hA; clear hM; go_simp; with_reducible rfl)) ?_; simp only [Act.put, List.setIfInBounds_toArray, List.set_cons_zero, List.set_cons_succ])
                | (refine sq_no rfl (by rfl) ?_; simp only [Act.put, List.setIfInBounds_toArray, List.set_cons_zero, List.set_cons_succ]))
              clear c49 c51 lp2 hnn
              refine sq_do_yes rfl (by rfl) (fun K hK => ?_)
              go_wp2_with fail
              refine (last_any HI.out.po HI.out.ll).mono ?_
              rintro e w8 ⟨v8, rfl, hs8, hb8⟩
              obtain ⟨a8, c8, hv8⟩ := hs8.form
              obtain ⟨l8, hl8⟩ : ∃ l, l = L.length := ⟨_, rfl⟩
              have HL8 := Lib.hid (show l8 ≤ 64 by rw [hl8]; exact HI.out.ll)
              rw [← hl8] at hv8
              subst hv8
              have HS8 := Lib.hid hs8
              replace HI := Lib.hid (HI.out.below hb8)
              replace HAC := Lib.hid (HAC.out.below hb8 HAC.out.lt)
              clear hs8 hl8
              go_wp2_with fail
              refine ⟨Mod.of_below hb8, ?_⟩
              clear hb8
              repeat (first
                | (refine sq_yes rfl (by rfl) (fun w' hM => by ((try replace hM := hM.of_drew); obtain ⟨hR1, hR2, hR3⟩ := hM.rules; have hA := hM.agg; obtain ⟨hA1, hA2⟩ := hA; clear hM; go_simp; with_reducible rfl)) ?_; simp only [Act.put, List.setIfInBounds_toArray, List.set_cons_zero, List.set_cons_succ])
                | (refine sq_no rfl (by rfl) ?_; simp only [Act.put, List.setIfInBounds_toArray, List.set_cons_zero, List.set_cons_succ]))
              refine sq_do_yes rfl (by rfl) (fun K hK => ?_)
              go_wp2_with fail
              refine (members_any a8 l8 c8 L aM lM cM L _ (HS8.out.rd Mb.len).1 (HI.out.rp.ml.rd Mb.len).1 (by have := HL8.out; omega) (by have := HLM.out; omega) HI.out.wl HI.out.wl).mono ?_
              rintro e w9 ⟨rfl, hb9⟩
              rw [show decide (L = L) = true from decide_eq_true rfl]
              replace HI := Lib.hid (HI.out.below hb9)
              replace HAC := Lib.hid (HAC.out.below hb9 HAC.out.lt)
              clear HS8
              go_wp2_with fail
              refine ⟨Mod.of_below hb9, ?_⟩
              clear hb9
              repeat (first
                | (refine sq_yes rfl (by rfl) (fun w' hM => by ((try replace hM := hM.of_drew); obtain ⟨hR1, hR2, hR3⟩ := hM.rules; have hA := hM.agg; obtain ⟨hA1, hA2⟩ := hA; clear hM; go_simp; with_reducible rfl)) ?_; simp only [Act.put, List.setIfInBounds_toArray, List.set_cons_zero, List.set_cons_succ])
                | (refine sq_no rfl (by rfl) ?_; simp only [Act.put, List.setIfInBounds_toArray, List.set_cons_zero, List.set_cons_succ]))
              refine sq_do_yes rfl (by rfl) (fun K hK => ?_)
              go_wp2_with fail
              refine (lives_any HI.out.po (-1)).mono ?_
              rintro e w10 ⟨v10, rfl, ho, hb10⟩
              rw [show cutP (-1) (liveTo vs now vs.length) = liveTo vs now vs.length from rfl, ← HQ.out] at ho
              obtain ⟨a10, n10, c10, rfl, hn10, hi10, _⟩ := ho.parts
              have HI10 := Lib.hid hi10
              have HN10 := Lib.hid (show n10 ≤ 4096 by rw [hn10, List.length_map]; exact HQL.out)
              replace HI := Lib.hid (HI.out.below hb10)
              replace HAC := Lib.hid (HAC.out.below hb10 HAC.out.lt)
              clear ho hn10 hi10
              go_wp2_with fail
              refine ⟨Mod.of_below hb10, ?_⟩
              clear hb10
              repeat (first
                | (refine sq_yes rfl (by rfl) (fun w' hM => by ((try replace hM := hM.of_drew); obtain ⟨hR1, hR2, hR3⟩ := hM.rules; have hA := hM.agg; obtain ⟨hA1, hA2⟩ := hA; clear hM; go_simp; with_reducible rfl)) ?_; simp only [Act.put, List.setIfInBounds_toArray, List.set_cons_zero, List.set_cons_succ])
                | (refine sq_no rfl (by rfl) ?_; simp only [Act.put, List.setIfInBounds_toArray, List.set_cons_zero, List.set_cons_succ]))
              refine sq_do_yes rfl (by rfl) (fun K hK => ?_)
              go_wp2_with fail
              refine (rlives_any HI.out.rp).mono ?_
              rintro e w11 ⟨v11, rfl, hs11, hb11⟩
              rw [HQR.out] at hs11
              obtain ⟨a11, c11, hv11⟩ := hs11.form
              obtain ⟨l11, hl11⟩ : ∃ l, l = (q.map fun z : Nat => (z : Int)).length := ⟨_, rfl⟩
              have HN11 := Lib.hid (show l11 ≤ 4096 by rw [hl11, List.length_map]; exact HQL.out)
              rw [← hl11] at hv11
              subst hv11
              have HI11 := Lib.hid (ints_rd (hs11.rd ei_len).1)
              replace HI := Lib.hid (HI.out.below hb11)
              replace HAC := Lib.hid (HAC.out.below hb11 HAC.out.lt)
              replace HI10 := Lib.hid (HI10.out.below hb11)
              clear hs11 hl11
              go_wp2_with fail
              refine ⟨Mod.of_below hb11, ?_⟩
              clear hb11
              repeat (first
                | (refine sq_yes rfl (by rfl) (fun w' hM => by ((try replace hM := hM.of_drew); obtain ⟨hR1, hR2, hR3⟩ := hM.rules; have hA := hM.agg; obtain ⟨hA1, hA2⟩ := hA; clear hM; go_simp; with_reducible rfl)) ?_; simp only [Act.put, List.setIfInBounds_toArray, List.set_cons_zero, List.set_cons_succ])
                | (refine sq_no rfl (by rfl) ?_; simp only [Act.put, List.setIfInBounds_toArray, List.set_cons_zero, List.set_cons_succ]))
              refine sq_do_yes rfl (by rfl) (fun K hK => ?_)
              go_wp2_with fail
              refine (ints_any a10 n10 c10 _ a11 l11 c11 _ _ HI10.out HI11.out (by have := HN10.out; omega) (by have := HN11.out; omega)).mono ?_
              rintro e w12 ⟨rfl, hb12⟩
              rw [show ((q.map fun z : Nat => (z : Int)) == (q.map fun z : Nat => (z : Int))) = true by simp]
              replace HI := Lib.hid (HI.out.below hb12)
              replace HAC := Lib.hid (HAC.out.below hb12 HAC.out.lt)
              clear HI10 HI11
              go_wp2_with fail
              refine ⟨Mod.of_below hb12, ?_⟩
              clear hb12
              repeat (first
                | (refine sq_yes rfl (by rfl) (fun w' hM => by ((try replace hM := hM.of_drew); obtain ⟨hR1, hR2, hR3⟩ := hM.rules; have hA := hM.agg; obtain ⟨hA1, hA2⟩ := hA; clear hM; go_simp; with_reducible rfl)) ?_; simp only [Act.put, List.setIfInBounds_toArray, List.set_cons_zero, List.set_cons_succ])
                | (refine sq_no rfl (by rfl) ?_; simp only [Act.put, List.setIfInBounds_toArray, List.set_cons_zero, List.set_cons_succ]))
              refine sq_do_yes rfl (by rfl) (fun K hK => ?_)
              go_wp2_with fail
              refine (lives_any HI.out.po 1).mono ?_
              rintro e w13 ⟨v13, rfl, ho, hb13⟩
              rw [show cutP 1 (liveTo vs now vs.length) = (liveTo vs now vs.length).take 1 from rfl, ← HQ.out] at ho
              obtain ⟨a13, n13, c13, rfl, hn13, hi13, _⟩ := ho.parts
              have HI13 := Lib.hid hi13
              have HN13 := Lib.hid (show n13 ≤ 4096 by rw [hn13, List.length_map, List.length_take]; omega)
              replace HI := Lib.hid (HI.out.below hb13)
              replace HAC := Lib.hid (HAC.out.below hb13 HAC.out.lt)
              clear ho hn13 hi13
              go_wp2_with fail
              refine ⟨Mod.of_below hb13, ?_⟩
              clear hb13
              repeat (first
                | (refine sq_yes rfl (by rfl) (fun w' hM => by ((try replace hM := hM.of_drew); obtain ⟨hR1, hR2, hR3⟩ := hM.rules; have hA := hM.agg; obtain ⟨hA1, hA2⟩ := hA; clear hM; go_simp; with_reducible rfl)) ?_; simp only [Act.put, List.setIfInBounds_toArray, List.set_cons_zero, List.set_cons_succ])
                | (refine sq_no rfl (by rfl) ?_; simp only [Act.put, List.setIfInBounds_toArray, List.set_cons_zero, List.set_cons_succ]))
              refine sq_do_yes rfl (by rfl) (fun K hK => ?_)
              go_wp2_with fail
              refine (rlives_any HI.out.rp).mono ?_
              rintro e w14 ⟨v14, rfl, hs14, hb14⟩
              rw [HQR.out] at hs14
              obtain ⟨a14, c14, hv14⟩ := hs14.form
              obtain ⟨l14, hl14⟩ : ∃ l, l = (q.map fun z : Nat => (z : Int)).length := ⟨_, rfl⟩
              have hl14b : 1 ≤ l14 := by rw [hl14, List.length_map]; exact HQ1.out
              rw [← hl14] at hv14
              subst hv14
              have hc14 : l14 ≤ c14 := by have := (hs14.rd ei_len).2; omega
              obtain ⟨g14, rfl, -⟩ := hs14.int (i := 0) (List.getElem?_eq_getElem (by omega))
              have HI14 := Lib.hid (ints_rd ((hs14.rd ei_len).1.head 1 hl14b))
              replace HI := Lib.hid (HI.out.below hb14)
              replace HAC := Lib.hid (HAC.out.below hb14 HAC.out.lt)
              replace HI13 := Lib.hid (HI13.out.below hb14)
              have hz1 : (1 : Int) ≤ (l14 : Int) := by omega
              have hz2 : (1 : Int) ≤ (c14 : Int) := by omega
              have hz3 : 1 ≤ c14 := by omega
              clear hs14 hl14
              go_wp2_with fail
              refine ⟨Mod.of_below hb14, ?_⟩
              clear hb14
              repeat (first
                | (refine sq_yes rfl (by rfl) (fun w' hM => by ((try replace hM := hM.of_drew); obtain ⟨hR1, hR2, hR3⟩ := hM.rules; have hA := hM.agg; obtain ⟨hA1, hA2⟩ := hA; clear hM; go_simp; with_reducible rfl)) ?_; simp only [Act.put, List.setIfInBounds_toArray, List.set_cons_zero, List.set_cons_succ])
                | (refine sq_no rfl (by rfl) ?_; simp only [Act.put, List.setIfInBounds_toArray, List.set_cons_zero, List.set_cons_succ]))
              clear hz1 hz2 hz3 hl14b hc14
              refine sq_do_yes rfl (by rfl) (fun K hK => ?_)
              go_wp2_with fail
              have hqq : ((q.take 1).map fun z : Nat => (z : Int)) = (q.map fun z : Nat => (z : Int)).take 1 := List.map_take
              refine (ints_any a13 n13 c13 _ _ 1 c14 _ _ HI13.out HI14.out (by have := HN13.out; omega) (by omega)).mono ?_
              rintro e w15 ⟨rfl, hb15⟩
              rw [hqq, show ((q.map fun z : Nat => (z : Int)).take 1 == (q.map fun z : Nat => (z : Int)).take 1) = true by simp]
              replace HI := Lib.hid (HI.out.below hb15)
              replace HAC := Lib.hid (HAC.out.below hb15 HAC.out.lt)
              clear HI13 HI14 hqq
              go_wp2_with fail
              refine ⟨Mod.of_below hb15, ?_⟩
              clear hb15
              repeat (first
                | (refine sq_yes rfl (by rfl) (fun w' hM => by ((try replace hM := hM.of_drew); obtain ⟨hR1, hR2, hR3⟩ := hM.rules; have hA := hM.agg; obtain ⟨hA1, hA2⟩ := hA; clear hM; go_simp; with_reducible rfl)) ?_; simp only [Act.put, List.setIfInBounds_toArray, List.set_cons_zero, List.set_cons_succ])
                | (refine sq_no rfl (by rfl) ?_; simp only [Act.put, List.setIfInBounds_toArray, List.set_cons_zero, List.set_cons_succ]))
              refine sq_end ?_
              clear HQ HQ1 HQR HQL
              go_wp2_with fail
              go_loopw [17, 18, 19, 20] (fun s17 _ _ _ wx => ∃ v : Int, s17 = .int .i64 v ∧ -1 ≤ v ∧ v ≤ N + 1 ∧ AIb w wx g B p t B2 p2 t2 N n (i + 1) c now last vs rs lv1 sv1 (.slice aM lM cM) L S ∧ At wx ga 101 #[.int .i64 kd, .int .i64 va, .int .i64 nn]) (fun s17 _ _ _ _ => (N + 1 - intOf s17).toNat)
              case atStart => exact ⟨-1, rfl, by omega, by omega, HI.out, HAC.out⟩
              case round =>
                as_aux_lemma =>
                  clear HI HAC
                  obtain ⟨v, rfl, hv1, hv2, hI, hac⟩ := hrel
                  have HI := Lib.hid hI
                  have HAC := Lib.hid hac
                  clear hI hac
                  have c6 := HI.out.cf.cell 6
                  rw [cl_head _ 6 (by omega)] at c6
                  simp only [Cf.head, List.getElem?_cons_succ, List.getElem?_cons_zero, HCV.out] at c6
                  have lg := HI.out.cf.lt
                  have k2 := HAC.out.cell 2
                  simp only [List.getElem?_toArray, List.getElem?_cons_zero, List.getElem?_cons_succ] at k2
                  have lga := HAC.out.lt
                  by_cases hvN : v ≤ (N : Int)
                  · have hvd : decide (v ≤ (N : Int)) = true := by simpa using hvN
                    cases hq : liveB vs now v with
                    | false =>
                      as_aux_lemma =>
                        have HQ := Lib.hid hq
                        have HQ2 := Lib.hid (show liveB (rvs rs) now v = false by rw [HI.out.ra.live]; exact hq)
                        clear hq
                        go_wp2_with fail
                        refine (rslots_no HI.out.rp v HQ2.out).mono ?_
                        rintro e w20 ⟨rfl, hw20⟩
                        obtain rfl := hw20.symm
                        clear hw20
                        go_wp2_with fail
                        refine (dip_noI HI.out.po v nn HQ.out).mono ?_
                        rintro e wd ⟨rfl, hbd⟩
                        replace HI := Lib.hid (HI.out.below hbd)
                        replace HAC := Lib.hid (HAC.out.below hbd HAC.out.lt)
                        clear hbd k2 lga
                        have hst := fun (w : World) (n : Nat) (Z : Array Value) (hn : n = w.heap.size) (hZ : Z.size = 18) => store_new (P := Try.prog) sizeDp w n Z (dc dp0) hn hZ (dc_size _) (dc_one _)
                        go_upto_region 36 with fail
                        obtain ⟨gd, hgd⟩ : ∃ gd, gd = wd.heap.size := ⟨_, rfl⟩
                        rw [← hgd]
                        have HD := Lib.hid (at_new wd 92 (dc dp0) gd hgd)
                        replace HI := Lib.hid (HI.out.below ((Below.refl _ wd).alloc (Nat.le_refl _) (.cells (dc dp0) 92)))
                        replace HAC := Lib.hid (HAC.out.alloc (.cells (dc dp0) 92))
                        clear hst hgd
                        generalize wd.alloc (.cells (dc dp0) 92) = Wd at *
                        have h00 : ((0 : Int) != 0) = false := rfl
                        refine region_sq (fun _ => False) [(0, true), (1, true), (3, true), (4, true), (2, false), (5, false), (6, true), (7, true), (8, true), (9, true), (11, true), (10, false), (12, false), (13, true), (14, true), (15, true), (16, true), (17, true), (18, true), (19, true), (20, true), (21, true), (22, true), (23, true), (24, true), (25, true), (26, true), (27, true), (28, true), (29, true), (30, true), (31, true), (32, true), (33, true), (34, true), (35, true), (36, true), (37, true), (38, true), (39, true), (40, true)] (by kernel_rfl) (by kernel_rfl) (fun _ _ d _ _ h => by cases d <;> exact h) ?_
                        repeat (first
                          | (refine sq_yes rfl (by rfl) (fun w' hM => by ((try replace hM := hM.of_drew); obtain ⟨hR1, hR2, hR3⟩ := hM.rules; have hA := hM.agg; obtain ⟨hA1, hA2⟩ := hA; clear hM; go_simp; with_reducible rfl)) ?_; simp only [Act.put, List.setIfInBounds_toArray, List.set_cons_zero, List.set_cons_succ])
                          | (refine sq_no rfl (by rfl) ?_; simp only [Act.put, List.setIfInBounds_toArray, List.set_cons_zero, List.set_cons_succ]))
                        replace HI := Lib.hid HI.out.drew
                        replace HAC := Lib.hid HAC.out.drew
                        replace HD := Lib.hid HD.out.drew
                        refine sq_do_yes rfl (by rfl) (fun K hK => ?_)
                        go_wp2_with fail
                        refine (refs_no HI.out.po v HQ.out).mono ?_
                        rintro e w21 ⟨rfl, rfl⟩
                        go_wp2_with fail
                        refine ⟨Mod.refl _ _, ?_⟩
                        repeat (first
                          | (refine sq_yes rfl (by rfl) (fun w' hM => by ((try replace hM := hM.of_drew); obtain ⟨hR1, hR2, hR3⟩ := hM.rules; have hA := hM.agg; obtain ⟨hA1, hA2⟩ := hA; clear hM; go_simp; with_reducible rfl)) ?_; simp only [Act.put, List.setIfInBounds_toArray, List.set_cons_zero, List.set_cons_succ])
                          | (refine sq_no rfl (by rfl) ?_; simp only [Act.put, List.setIfInBounds_toArray, List.set_cons_zero, List.set_cons_succ]))
                        refine sq_do_yes rfl (by rfl) (fun K hK => ?_)
                        go_wp2_with fail
                        refine (rrefs_no HI.out.rp v HQ2.out).mono ?_
                        rintro e w22 ⟨rfl, rfl⟩
                        go_wp2_with fail
                        refine ⟨Mod.refl _ _, ?_⟩
                        repeat (first
                          | (refine sq_yes rfl (by rfl) (fun w' hM => by ((try replace hM := hM.of_drew); obtain ⟨hR1, hR2, hR3⟩ := hM.rules; have hA := hM.agg; obtain ⟨hA1, hA2⟩ := hA; clear hM; go_simp; with_reducible rfl)) ?_; simp only [Act.put, List.setIfInBounds_toArray, List.set_cons_zero, List.set_cons_succ])
                          | (refine sq_no rfl (by rfl) ?_; simp only [Act.put, List.setIfInBounds_toArray, List.set_cons_zero, List.set_cons_succ]))
                        refine sq_do_yes rfl (by rfl) (fun K hK => ?_)
                        go_wp2_with fail
                        refine (slots_no HI.out.po v HQ.out).mono ?_
                        rintro e w23 ⟨rfl, rfl⟩
                        go_wp2_with fail
                        refine ⟨Mod.refl _ _, ?_⟩
                        repeat (first
                          | (refine sq_yes rfl (by rfl) (fun w' hM => by ((try replace hM := hM.of_drew); obtain ⟨hR1, hR2, hR3⟩ := hM.rules; have hA := hM.agg; obtain ⟨hA1, hA2⟩ := hA; clear hM; go_simp; with_reducible rfl)) ?_; simp only [Act.put, List.setIfInBounds_toArray, List.set_cons_zero, List.set_cons_succ])
                          | (refine sq_no rfl (by rfl) ?_; simp only [Act.put, List.setIfInBounds_toArray, List.set_cons_zero, List.set_cons_succ]))
                        refine sq_do_yes rfl (by rfl) (fun K hK => ?_)
                        go_wp2_with fail
                        refine (dips_any none 0 0 [] none 0 0 [] _ (Rd.zero _ _ _ _) (Rd.zero _ _ _ _) (by omega) (by omega)).mono ?_
                        rintro e w24 ⟨rfl, hb24⟩
                        rw [show decide (([] : List Dp) = []) = true from rfl]
                        replace HI := Lib.hid (HI.out.below hb24)
                        replace HAC := Lib.hid (HAC.out.below hb24 HAC.out.lt)
                        replace HD := Lib.hid (HD.out.below hb24 HD.out.lt)
                        go_wp2_with fail
                        refine ⟨Mod.of_below hb24, ?_⟩
                        clear hb24
                        have k2 := HAC.out.cell 2
                        simp only [List.getElem?_toArray, List.getElem?_cons_zero, List.getElem?_cons_succ] at k2
                        have lga := HAC.out.lt
                        obtain ⟨bz, hbz⟩ : ∃ b, decide (0 ≤ nn) = b := ⟨_, rfl⟩
                        have hbz2 : decide (nn < 0) = !bz := by rw [← hbz]; by_cases h : 0 ≤ nn <;> simp [h] <;> omega
                        cases bz with
                        | true =>
                          have hbz3 : decide (nn < 0) = false := by rw [hbz2]; rfl
                          clear hbz2
                          repeat (first
                            | (refine sq_yes rfl (by rfl) (fun w' hM => by ((try replace hM := hM.of_drew); obtain ⟨hR1, hR2, hR3⟩ := hM.rules; have hA := hM.agg; obtain ⟨hA1, hA2⟩ := hA; clear hM; go_simp; with_reducible rfl)) ?_; simp only [Act.put, List.setIfInBounds_toArray, List.set_cons_zero, List.set_cons_succ])
                            | (refine sq_no rfl (by rfl) ?_; simp only [Act.put, List.setIfInBounds_toArray, List.set_cons_zero, List.set_cons_succ]))
                          refine sq_end ?_
                          go_wp2_with fail
                          go_roundw
                          case rel => exact ⟨_, rfl, by omega, by omega, HI.out, HAC.out⟩
                          case measure => simp [intOf] <;> omega
                        | false =>
                          repeat (first
                            | (refine sq_yes rfl (by rfl) (fun w' hM => by ((try replace hM := hM.of_drew); obtain ⟨hR1, hR2, hR3⟩ := hM.rules; have hA := hM.agg; obtain ⟨hA1, hA2⟩ := hA; clear hM; go_simp; with_reducible rfl)) ?_; simp only [Act.put, List.setIfInBounds_toArray, List.set_cons_zero, List.set_cons_succ])
                            | (refine sq_no rfl (by rfl) ?_; simp only [Act.put, List.setIfInBounds_toArray, List.set_cons_zero, List.set_cons_succ]))
                          refine sq_end ?_
                          go_wp2_with fail
                          go_roundw
                          case rel => exact ⟨_, rfl, by omega, by omega, HI.out, HAC.out⟩
                          case measure => simp [intOf] <;> omega
                    | true =>
                      as_aux_lemma =>
                        have hvr : 0 ≤ v ∧ v < (N : Int) := by
                          by_cases h0 : v < 0
                          · rw [liveB_neg h0] at hq; cases hq
                          · by_cases h1 : (vs.length : Int) ≤ v
                            · rw [liveB_big h1] at hq; cases hq
                            · have := HI.out.ra.len; omega
                        obtain ⟨j, rfl⟩ : ∃ j : Nat, v = j := ⟨v.toNat, by omega⟩
                        obtain ⟨x, r, hx, hr, he1, he2, he3, hx1, hx2⟩ := HI.out.ra.get (show j < N by omega)
                        have HQ := Lib.hid hq
                        have HQ2 := Lib.hid (show liveB (rvs rs) now (j : Int) = true by rw [HI.out.ra.live]; exact hq)
                        have HX := Lib.hid hx
                        have HR := Lib.hid hr
                        have HE := Lib.hid (And.intro he1 he2)
                        have HX64 := Lib.hid (show x.S.length ≤ 64 by omega)
                        obtain ⟨aR, cR, hsv⟩ := (HI.out.rp.vers r (List.mem_of_getElem? hr)).form
                        obtain ⟨lR, hlR⟩ : ∃ l, l = r.S.length := ⟨_, rfl⟩
                        have HLR := Lib.hid (show lR = x.S.length by rw [hlR, he1])
                        rw [← hlR] at hsv
                        have HSV := Lib.hid hsv
                        clear hq hx hr he1 he2 he3 hx1 hx2 hvr hlR hsv
                        go_wp2_with fail
                        refine (rslots_any HI.out.rp j r HR.out HQ2.out).mono ?_
                        rintro e w20 ⟨rfl, hw20⟩
                        obtain rfl := hw20.symm
                        clear hw20
                        rw [HSV.out]
                        go_wp2_with fail
                        by_cases hn0 : nn < 0
                        · as_aux_lemma =>
                            have HN0 := Lib.hid hn0
                            refine (dip_neg HI.out.po j x nn HX.out HQ.out HN0.out).mono ?_
                            rintro e wd ⟨rfl, hbd⟩
                            replace HI := Lib.hid (HI.out.below hbd)
                            replace HAC := Lib.hid (HAC.out.below hbd HAC.out.lt)
                            clear hbd k2 lga
                            have hst := fun (w : World) (n : Nat) (Z : Array Value) (hn : n = w.heap.size) (hZ : Z.size = 18) => store_new (P := Try.prog) sizeDp w n Z (dc dp0) hn hZ (dc_size _) (dc_one _)
                            go_upto_region 36 with fail
                            obtain ⟨gd, hgd⟩ : ∃ gd, gd = wd.heap.size := ⟨_, rfl⟩
                            rw [← hgd]
                            have HD := Lib.hid (at_new wd 92 (dc dp0) gd hgd)
                            replace HI := Lib.hid (HI.out.below ((Below.refl _ wd).alloc (Nat.le_refl _) (.cells (dc dp0) 92)))
                            replace HAC := Lib.hid (HAC.out.alloc (.cells (dc dp0) 92))
                            clear hst hgd
                            generalize wd.alloc (.cells (dc dp0) 92) = Wd at *
                            have hrr : ((x.refs : Int) != (x.refs : Int)) = false := by simp
                            refine region_sq (fun _ => False) [(0, true), (1, true), (3, true), (4, true), (2, false), (5, false), (6, true), (7, true), (8, true), (9, true), (11, true), (10, false), (12, false), (13, true), (14, true), (15, true), (16, true), (17, true), (18, true), (19, true), (20, true), (21, true), (22, true), (23, true), (24, true), (25, true), (26, true), (27, true), (28, true), (29, true), (30, true), (31, true), (32, true), (33, true), (34, true), (35, true), (36, true), (37, true), (38, true), (39, true), (40, true)] (by kernel_rfl) (by kernel_rfl) (fun _ _ d _ _ h => by cases d <;> exact h) ?_
                            repeat (first
                              | (refine sq_yes rfl (by rfl) (fun w' hM => by ((try replace hM := hM.of_drew); obtain ⟨hR1, hR2, hR3⟩ := hM.rules; have hA := hM.agg; obtain ⟨hA1, hA2⟩ := hA; clear hM; go_simp; with_reducible rfl)) ?_; simp only [Act.put, List.setIfInBounds_toArray, List.set_cons_zero, List.set_cons_succ])
                              | (refine sq_no rfl (by rfl) ?_; simp only [Act.put, List.setIfInBounds_toArray, List.set_cons_zero, List.set_cons_succ]))
                            replace HI := Lib.hid HI.out.drew
                            replace HAC := Lib.hid HAC.out.drew
                            replace HD := Lib.hid HD.out.drew
                            refine sq_do_yes rfl (by rfl) (fun K hK => ?_)
                            go_wp2_with fail
                            refine (refs_any HI.out.po j x HX.out HQ.out).mono ?_
                            rintro e w21 ⟨rfl, rfl⟩
                            go_wp2_with fail
                            refine ⟨Mod.refl _ _, ?_⟩
                            repeat (first
                              | (refine sq_yes rfl (by rfl) (fun w' hM => by ((try replace hM := hM.of_drew); obtain ⟨hR1, hR2, hR3⟩ := hM.rules; have hA := hM.agg; obtain ⟨hA1, hA2⟩ := hA; clear hM; go_simp; with_reducible rfl)) ?_; simp only [Act.put, List.setIfInBounds_toArray, List.set_cons_zero, List.set_cons_succ])
                              | (refine sq_no rfl (by rfl) ?_; simp only [Act.put, List.setIfInBounds_toArray, List.set_cons_zero, List.set_cons_succ]))
                            refine sq_do_yes rfl (by rfl) (fun K hK => ?_)
                            go_wp2_with fail
                            refine (rrefs_any HI.out.rp j r HR.out HQ2.out).mono ?_
                            rintro e w22 ⟨rfl, rfl⟩
                            rw [HE.out.2]
                            go_wp2_with fail
                            refine ⟨Mod.refl _ _, ?_⟩
                            repeat (first
                              | (refine sq_yes rfl (by rfl) (fun w' hM => by ((try replace hM := hM.of_drew); obtain ⟨hR1, hR2, hR3⟩ := hM.rules; have hA := hM.agg; obtain ⟨hA1, hA2⟩ := hA; clear hM; go_simp; with_reducible rfl)) ?_; simp only [Act.put, List.setIfInBounds_toArray, List.set_cons_zero, List.set_cons_succ])
                              | (refine sq_no rfl (by rfl) ?_; simp only [Act.put, List.setIfInBounds_toArray, List.set_cons_zero, List.set_cons_succ]))
                            refine sq_do_yes rfl (by rfl) (fun K hK => ?_)
                            go_wp2_with fail
                            refine (slots_any HI.out.po j x HX.out HQ.out HX64.out).mono ?_
                            rintro e w23 ⟨v23, rfl, hs23, hb23⟩
                            obtain ⟨a23, c23, hv23⟩ := hs23.form
                            obtain ⟨l23, hl23⟩ : ∃ l, l = x.S.length := ⟨_, rfl⟩
                            have HL23 := Lib.hid (show l23 ≤ 4096 by rw [hl23]; exact Nat.le_trans HX64.out (by decide))
                            rw [← hl23] at hv23
                            subst hv23
                            have HS23 := Lib.hid hs23
                            replace HI := Lib.hid (HI.out.below hb23)
                            replace HAC := Lib.hid (HAC.out.below hb23 HAC.out.lt)
                            replace HD := Lib.hid (HD.out.below hb23 HD.out.lt)
                            clear hs23 hl23
                            go_wp2_with fail
                            refine ⟨Mod.of_below hb23, ?_⟩
                            clear hb23
                            repeat (first
                              | (refine sq_yes rfl (by rfl) (fun w' hM => by ((try replace hM := hM.of_drew); obtain ⟨hR1, hR2, hR3⟩ := hM.rules; have hA := hM.agg; obtain ⟨hA1, hA2⟩ := hA; clear hM; go_simp; with_reducible rfl)) ?_; simp only [Act.put, List.setIfInBounds_toArray, List.set_cons_zero, List.set_cons_succ])
                              | (refine sq_no rfl (by rfl) ?_; simp only [Act.put, List.setIfInBounds_toArray, List.set_cons_zero, List.set_cons_succ]))
                            refine sq_do_yes rfl (by rfl) (fun K hK => ?_)
                            go_wp2_with fail
                            have hsr := HI.out.rp.vers r (List.mem_of_getElem? HR.out)
                            rw [HSV.out, HE.out.1] at hsr
                            refine (dips_any a23 l23 c23 x.S aR lR cR x.S _ (HS23.out.rd Dp.l_length).1 (hsr.rd Dp.l_length).1 HL23.out (by have := HLR.out; have := HX64.out; omega)).mono ?_
                            rintro e w24 ⟨rfl, hb24⟩
                            rw [show decide (x.S = x.S) = true from decide_eq_true rfl]
                            replace HI := Lib.hid (HI.out.below hb24)
                            replace HAC := Lib.hid (HAC.out.below hb24 HAC.out.lt)
                            replace HD := Lib.hid (HD.out.below hb24 HD.out.lt)
                            clear hsr HS23
                            go_wp2_with fail
                            refine ⟨Mod.of_below hb24, ?_⟩
                            clear hb24 hrr
                            have k2 := HAC.out.cell 2
                            simp only [List.getElem?_toArray, List.getElem?_cons_zero, List.getElem?_cons_succ] at k2
                            have lga := HAC.out.lt
                            have hz1 : decide (0 ≤ nn) = false := by have := HN0.out; simp; omega
                            repeat (first
                              | (refine sq_yes rfl (by rfl) (fun w' hM => by ((try replace hM := hM.of_drew); obtain ⟨hR1, hR2, hR3⟩ := hM.rules; have hA := hM.agg; obtain ⟨hA1, hA2⟩ := hA; clear hM; go_simp; with_reducible rfl)) ?_; simp only [Act.put, List.setIfInBounds_toArray, List.set_cons_zero, List.set_cons_succ])
                              | (refine sq_no rfl (by rfl) ?_; simp only [Act.put, List.setIfInBounds_toArray, List.set_cons_zero, List.set_cons_succ]))
                            refine sq_end ?_
                            go_wp2_with fail
                            go_roundw
                            case rel => exact ⟨_, rfl, by omega, by omega, HI.out, HAC.out⟩
                            case measure => simp [intOf] <;> omega
                        obtain ⟨m, rfl⟩ : ∃ m : Nat, nn = m := ⟨nn.toNat, by omega⟩
                        clear hn0
                        by_cases hml : m < lR
                        · as_aux_lemma =>
                            have HML := Lib.hid hml
                            obtain ⟨y, hy⟩ : ∃ y, x.S[m]? = some y := ⟨_, List.getElem?_eq_getElem (by rw [← HLR.out]; exact hml)⟩
                            have HY := Lib.hid hy
                            clear hml hy
                            refine (dip_yes HI.out.po j x m y HX.out HQ.out HY.out HX64.out).mono ?_
                            rintro e wd ⟨rfl, hbd⟩
                            replace HI := Lib.hid (HI.out.below hbd)
                            replace HAC := Lib.hid (HAC.out.below hbd HAC.out.lt)
                            clear hbd k2 lga
                            have hst := fun (w : World) (n : Nat) (Z : Array Value) (hn : n = w.heap.size) (hZ : Z.size = 18) => store_new (P := Try.prog) sizeDp w n Z (dc y) hn hZ (dc_size _) (dc_one _)
                            go_upto_region 36 with fail
                            obtain ⟨gd, hgd⟩ : ∃ gd, gd = wd.heap.size := ⟨_, rfl⟩
                            rw [← hgd]
                            have HD := Lib.hid (at_new wd 92 (dc y) gd hgd)
                            replace HI := Lib.hid (HI.out.below ((Below.refl _ wd).alloc (Nat.le_refl _) (.cells (dc y) 92)))
                            replace HAC := Lib.hid (HAC.out.alloc (.cells (dc y) 92))
                            clear hst hgd
                            generalize wd.alloc (.cells (dc y) 92) = Wd at *
                            have hrr : ((x.refs : Int) != (x.refs : Int)) = false := by simp
                            refine region_sq (fun _ => False) [(0, true), (1, true), (3, true), (4, true), (2, false), (5, false), (6, true), (7, true), (8, true), (9, true), (11, true), (10, false), (12, false), (13, true), (14, true), (15, true), (16, true), (17, true), (18, true), (19, true), (20, true), (21, true), (22, true), (23, true), (24, true), (25, true), (26, true), (27, true), (28, true), (29, true), (30, true), (31, true), (32, true), (33, true), (34, true), (35, true), (36, true), (37, true), (38, true), (39, true), (40, true)] (by kernel_rfl) (by kernel_rfl) (fun _ _ d _ _ h => by cases d <;> exact h) ?_
                            repeat (first
                              | (refine sq_yes rfl (by rfl) (fun w' hM => by ((try replace hM := hM.of_drew); obtain ⟨hR1, hR2, hR3⟩ := hM.rules; have hA := hM.agg; obtain ⟨hA1, hA2⟩ := hA; clear hM; go_simp; with_reducible rfl)) ?_; simp only [Act.put, List.setIfInBounds_toArray, List.set_cons_zero, List.set_cons_succ])
                              | (refine sq_no rfl (by rfl) ?_; simp only [Act.put, List.setIfInBounds_toArray, List.set_cons_zero, List.set_cons_succ]))
                            replace HI := Lib.hid HI.out.drew
                            replace HAC := Lib.hid HAC.out.drew
                            replace HD := Lib.hid HD.out.drew
                            refine sq_do_yes rfl (by rfl) (fun K hK => ?_)
                            go_wp2_with fail
                            refine (refs_any HI.out.po j x HX.out HQ.out).mono ?_
                            rintro e w21 ⟨rfl, rfl⟩
                            go_wp2_with fail
                            refine ⟨Mod.refl _ _, ?_⟩
                            repeat (first
                              | (refine sq_yes rfl (by rfl) (fun w' hM => by ((try replace hM := hM.of_drew); obtain ⟨hR1, hR2, hR3⟩ := hM.rules; have hA := hM.agg; obtain ⟨hA1, hA2⟩ := hA; clear hM; go_simp; with_reducible rfl)) ?_; simp only [Act.put, List.setIfInBounds_toArray, List.set_cons_zero, List.set_cons_succ])
                              | (refine sq_no rfl (by rfl) ?_; simp only [Act.put, List.setIfInBounds_toArray, List.set_cons_zero, List.set_cons_succ]))
                            refine sq_do_yes rfl (by rfl) (fun K hK => ?_)
                            go_wp2_with fail
                            refine (rrefs_any HI.out.rp j r HR.out HQ2.out).mono ?_
                            rintro e w22 ⟨rfl, rfl⟩
                            rw [HE.out.2]
                            go_wp2_with fail
                            refine ⟨Mod.refl _ _, ?_⟩
                            repeat (first
                              | (refine sq_yes rfl (by rfl) (fun w' hM => by ((try replace hM := hM.of_drew); obtain ⟨hR1, hR2, hR3⟩ := hM.rules; have hA := hM.agg; obtain ⟨hA1, hA2⟩ := hA; clear hM; go_simp; with_reducible rfl)) ?_; simp only [Act.put, List.setIfInBounds_toArray, List.set_cons_zero, List.set_cons_succ])
                              | (refine sq_no rfl (by rfl) ?_; simp only [Act.put, List.setIfInBounds_toArray, List.set_cons_zero, List.set_cons_succ]))
                            refine sq_do_yes rfl (by rfl) (fun K hK => ?_)
                            go_wp2_with fail
                            refine (slots_any HI.out.po j x HX.out HQ.out HX64.out).mono ?_
                            rintro e w23 ⟨v23, rfl, hs23, hb23⟩
                            obtain ⟨a23, c23, hv23⟩ := hs23.form
                            obtain ⟨l23, hl23⟩ : ∃ l, l = x.S.length := ⟨_, rfl⟩
                            have HL23 := Lib.hid (show l23 ≤ 4096 by rw [hl23]; exact Nat.le_trans HX64.out (by decide))
                            rw [← hl23] at hv23
                            subst hv23
                            have HS23 := Lib.hid hs23
                            replace HI := Lib.hid (HI.out.below hb23)
                            replace HAC := Lib.hid (HAC.out.below hb23 HAC.out.lt)
                            replace HD := Lib.hid (HD.out.below hb23 HD.out.lt)
                            clear hs23 hl23
                            go_wp2_with fail
                            refine ⟨Mod.of_below hb23, ?_⟩
                            clear hb23
                            repeat (first
                              | (refine sq_yes rfl (by rfl) (fun w' hM => by ((try replace hM := hM.of_drew); obtain ⟨hR1, hR2, hR3⟩ := hM.rules; have hA := hM.agg; obtain ⟨hA1, hA2⟩ := hA; clear hM; go_simp; with_reducible rfl)) ?_; simp only [Act.put, List.setIfInBounds_toArray, List.set_cons_zero, List.set_cons_succ])
                              | (refine sq_no rfl (by rfl) ?_; simp only [Act.put, List.setIfInBounds_toArray, List.set_cons_zero, List.set_cons_succ]))
                            refine sq_do_yes rfl (by rfl) (fun K hK => ?_)
                            go_wp2_with fail
                            have hsr := HI.out.rp.vers r (List.mem_of_getElem? HR.out)
                            rw [HSV.out, HE.out.1] at hsr
                            refine (dips_any a23 l23 c23 x.S aR lR cR x.S _ (HS23.out.rd Dp.l_length).1 (hsr.rd Dp.l_length).1 HL23.out (by have := HLR.out; have := HX64.out; omega)).mono ?_
                            rintro e w24 ⟨rfl, hb24⟩
                            rw [show decide (x.S = x.S) = true from decide_eq_true rfl]
                            replace HI := Lib.hid (HI.out.below hb24)
                            replace HAC := Lib.hid (HAC.out.below hb24 HAC.out.lt)
                            replace HD := Lib.hid (HD.out.below hb24 HD.out.lt)
                            clear hsr HS23
                            go_wp2_with fail
                            refine ⟨Mod.of_below hb24, ?_⟩
                            clear hb24 hrr
                            have k2 := HAC.out.cell 2
                            simp only [List.getElem?_toArray, List.getElem?_cons_zero, List.getElem?_cons_succ] at k2
                            have lga := HAC.out.lt
                            have hz1 : decide ((0 : Int) ≤ (m : Int)) = true := by simp
                            have hz2 : decide ((m : Int) < (lR : Int)) = true := by have := HML.out; simp; omega
                            have hz3 : (m : Int) < (lR : Int) := by have := HML.out; omega
                            obtain ⟨had, haod⟩ := HD.out.agg 0 18 (by rw [dc_size]; omega)
                            rw [show 0 + 18 = 18 from rfl, dc_all] at had
                            have lgd := HD.out.lt
                            have hsr := HI.out.rp.vers r (List.mem_of_getElem? HR.out)
                            rw [HSV.out, HE.out.1] at hsr
                            obtain ⟨b, o, rfl, hbl, ha, hao⟩ := (hsr.rd Dp.l_length).1.agg Dp.l_length HY.out
                            rw [show (Dp.l y).toArray = dc y from rfl] at ha
                            have hdd : decide (y = y) = true := decide_eq_true rfl
                            clear hsr
                            repeat (first
                              | (refine sq_yes rfl (by rfl) (fun w' hM => by ((try replace hM := hM.of_drew); obtain ⟨hR1, hR2, hR3⟩ := hM.rules; have hA := hM.agg; obtain ⟨hA1, hA2⟩ := hA; clear hM; go_simp; with_reducible rfl)) ?_; simp only [Act.put, List.setIfInBounds_toArray, List.set_cons_zero, List.set_cons_succ])
                              | (refine sq_no rfl (by rfl) ?_; simp only [Act.put, List.setIfInBounds_toArray, List.set_cons_zero, List.set_cons_succ]))
                            refine sq_end ?_
                            go_wp2_with fail
                            go_roundw
                            case rel => exact ⟨_, rfl, by omega, by omega, HI.out, HAC.out⟩
                            case measure => simp [intOf] <;> omega
                        · as_aux_lemma =>
                            have HML := Lib.hid (show lR ≤ m by omega)
                            clear hml
                            refine (dip_past HI.out.po j x m HX.out HQ.out (by rw [← HLR.out]; exact HML.out)).mono ?_
                            rintro e wd ⟨rfl, hbd⟩
                            replace HI := Lib.hid (HI.out.below hbd)
                            replace HAC := Lib.hid (HAC.out.below hbd HAC.out.lt)
                            clear hbd k2 lga
                            have hst := fun (w : World) (n : Nat) (Z : Array Value) (hn : n = w.heap.size) (hZ : Z.size = 18) => store_new (P := Try.prog) sizeDp w n Z (dc dp0) hn hZ (dc_size _) (dc_one _)
                            go_upto_region 36 with fail
                            obtain ⟨gd, hgd⟩ : ∃ gd, gd = wd.heap.size := ⟨_, rfl⟩
                            rw [← hgd]
                            have HD := Lib.hid (at_new wd 92 (dc dp0) gd hgd)
                            replace HI := Lib.hid (HI.out.below ((Below.refl _ wd).alloc (Nat.le_refl _) (.cells (dc dp0) 92)))
                            replace HAC := Lib.hid (HAC.out.alloc (.cells (dc dp0) 92))
                            clear hst hgd
                            generalize wd.alloc (.cells (dc dp0) 92) = Wd at *
                            have hrr : ((x.refs : Int) != (x.refs : Int)) = false := by simp
                            refine region_sq (fun _ => False) [(0, true), (1, true), (3, true), (4, true), (2, false), (5, false), (6, true), (7, true), (8, true), (9, true), (11, true), (10, false), (12, false), (13, true), (14, true), (15, true), (16, true), (17, true), (18, true), (19, true), (20, true), (21, true), (22, true), (23, true), (24, true), (25, true), (26, true), (27, true), (28, true), (29, true), (30, true), (31, true), (32, true), (33, true), (34, true), (35, true), (36, true), (37, true), (38, true), (39, true), (40, true)] (by kernel_rfl) (by kernel_rfl) (fun _ _ d _ _ h => by cases d <;> exact h) ?_
                            repeat (first
                              | (refine sq_yes rfl (by rfl) (fun w' hM => by ((try replace hM := hM.of_drew); obtain ⟨hR1, hR2, hR3⟩ := hM.rules; have hA := hM.agg; obtain ⟨hA1, hA2⟩ := hA; clear hM; go_simp; with_reducible rfl)) ?_; simp only [Act.put, List.setIfInBounds_toArray, List.set_cons_zero, List.set_cons_succ])
                              | (refine sq_no rfl (by rfl) ?_; simp only [Act.put, List.setIfInBounds_toArray, List.set_cons_zero, List.set_cons_succ]))
                            replace HI := Lib.hid HI.out.drew
                            replace HAC := Lib.hid HAC.out.drew
                            replace HD := Lib.hid HD.out.drew
                            refine sq_do_yes rfl (by rfl) (fun K hK => ?_)
                            go_wp2_with fail
                            refine (refs_any HI.out.po j x HX.out HQ.out).mono ?_
                            rintro e w21 ⟨rfl, rfl⟩
                            go_wp2_with fail
                            refine ⟨Mod.refl _ _, ?_⟩
                            repeat (first
                              | (refine sq_yes rfl (by rfl) (fun w' hM => by ((try replace hM := hM.of_drew); obtain ⟨hR1, hR2, hR3⟩ := hM.rules; have hA := hM.agg; obtain ⟨hA1, hA2⟩ := hA; clear hM; go_simp; with_reducible rfl)) ?_; simp only [Act.put, List.setIfInBounds_toArray, List.set_cons_zero, List.set_cons_succ])
                              | (refine sq_no rfl (by rfl) ?_; simp only [Act.put, List.setIfInBounds_toArray, List.set_cons_zero, List.set_cons_succ]))
                            refine sq_do_yes rfl (by rfl) (fun K hK => ?_)
                            go_wp2_with fail
                            refine (rrefs_any HI.out.rp j r HR.out HQ2.out).mono ?_
                            rintro e w22 ⟨rfl, rfl⟩
                            rw [HE.out.2]
                            go_wp2_with fail
                            refine ⟨Mod.refl _ _, ?_⟩
                            repeat (first
                              | (refine sq_yes rfl (by rfl) (fun w' hM => by ((try replace hM := hM.of_drew); obtain ⟨hR1, hR2, hR3⟩ := hM.rules; have hA := hM.agg; obtain ⟨hA1, hA2⟩ := hA; clear hM; go_simp; with_reducible rfl)) ?_; simp only [Act.put, List.setIfInBounds_toArray, List.set_cons_zero, List.set_cons_succ])
                              | (refine sq_no rfl (by rfl) ?_; simp only [Act.put, List.setIfInBounds_toArray, List.set_cons_zero, List.set_cons_succ]))
                            refine sq_do_yes rfl (by rfl) (fun K hK => ?_)
                            go_wp2_with fail
                            refine (slots_any HI.out.po j x HX.out HQ.out HX64.out).mono ?_
                            rintro e w23 ⟨v23, rfl, hs23, hb23⟩
                            obtain ⟨a23, c23, hv23⟩ := hs23.form
                            obtain ⟨l23, hl23⟩ : ∃ l, l = x.S.length := ⟨_, rfl⟩
                            have HL23 := Lib.hid (show l23 ≤ 4096 by rw [hl23]; exact Nat.le_trans HX64.out (by decide))
                            rw [← hl23] at hv23
                            subst hv23
                            have HS23 := Lib.hid hs23
                            replace HI := Lib.hid (HI.out.below hb23)
                            replace HAC := Lib.hid (HAC.out.below hb23 HAC.out.lt)
                            replace HD := Lib.hid (HD.out.below hb23 HD.out.lt)
                            clear hs23 hl23
                            go_wp2_with fail
                            refine ⟨Mod.of_below hb23, ?_⟩
                            clear hb23
                            repeat (first
                              | (refine sq_yes rfl (by rfl) (fun w' hM => by ((try replace hM := hM.of_drew); obtain ⟨hR1, hR2, hR3⟩ := hM.rules; have hA := hM.agg; obtain ⟨hA1, hA2⟩ := hA; clear hM; go_simp; with_reducible rfl)) ?_; simp only [Act.put, List.setIfInBounds_toArray, List.set_cons_zero, List.set_cons_succ])
                              | (refine sq_no rfl (by rfl) ?_; simp only [Act.put, List.setIfInBounds_toArray, List.set_cons_zero, List.set_cons_succ]))
                            refine sq_do_yes rfl (by rfl) (fun K hK => ?_)
                            go_wp2_with fail
                            have hsr := HI.out.rp.vers r (List.mem_of_getElem? HR.out)
                            rw [HSV.out, HE.out.1] at hsr
                            refine (dips_any a23 l23 c23 x.S aR lR cR x.S _ (HS23.out.rd Dp.l_length).1 (hsr.rd Dp.l_length).1 HL23.out (by have := HLR.out; have := HX64.out; omega)).mono ?_
                            rintro e w24 ⟨rfl, hb24⟩
                            rw [show decide (x.S = x.S) = true from decide_eq_true rfl]
                            replace HI := Lib.hid (HI.out.below hb24)
                            replace HAC := Lib.hid (HAC.out.below hb24 HAC.out.lt)
                            replace HD := Lib.hid (HD.out.below hb24 HD.out.lt)
                            clear hsr HS23
                            go_wp2_with fail
                            refine ⟨Mod.of_below hb24, ?_⟩
                            clear hb24 hrr
                            have k2 := HAC.out.cell 2
                            simp only [List.getElem?_toArray, List.getElem?_cons_zero, List.getElem?_cons_succ] at k2
                            have lga := HAC.out.lt
                            have hz1 : decide ((0 : Int) ≤ (m : Int)) = true := by simp
                            have hz2 : decide ((m : Int) < (lR : Int)) = false := by have := HML.out; simp; omega
                            have hz3 : (lR : Int) ≤ (m : Int) := by have := HML.out; omega
                            have hz4 : decide (m < lR) = false := by have := HML.out; simp; omega
                            repeat (first
                              | (refine sq_yes rfl (by rfl) (fun w' hM => by ((try replace hM := hM.of_drew); obtain ⟨hR1, hR2, hR3⟩ := hM.rules; have hA := hM.agg; obtain ⟨hA1, hA2⟩ := hA; clear hM; go_simp; with_reducible rfl)) ?_; simp only [Act.put, List.setIfInBounds_toArray, List.set_cons_zero, List.set_cons_succ])
                              | (refine sq_no rfl (by rfl) ?_; simp only [Act.put, List.setIfInBounds_toArray, List.set_cons_zero, List.set_cons_succ]))
                            refine sq_end ?_
                            go_wp2_with fail
                            go_roundw
                            case rel => exact ⟨_, rfl, by omega, by omega, HI.out, HAC.out⟩
                            case measure => simp [intOf] <;> omega
                  · have hvd : decide (v ≤ (N : Int)) = false := by simpa using hvN
                    go_wp2_with fail
                    go_roundw
                    case rel => exact ⟨i + 1, by go_num, by omega, now, last, vs, rs, lv1, sv1, _, L, S, HI.out⟩
                    case measure => simp [intOf] <;> omega
        · have hltz : ¬ (i : Int) < (na : Int) := by omega
          have hltd : decide (i < na) = false := by simpa using hlt
          go_wp2_with fail
          refine (pawake_any _).mono ?_
          rintro e w5 ⟨rfl, hb⟩
          have HB := Lib.hid (step_below HI.out.bel hb)
          clear hb
          go_wp2_with fail
          go_ret
          exact ⟨rfl, HB.out⟩
end Go.Proofs.Ythfgccibiajneaa
