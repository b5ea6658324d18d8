/-
  PoolsServe: just what was reserved may serve, once.
-/
import Derived.Test.YthfgccibiajneaaBas
namespace Go.Proofs.Ythfgccibiajneaa
open Go.RowKit Go.Shelf
/-- Versions that nobody refers to: which of them wait is told by r. -/
def Sh (N : Nat) (vs : List V) (r : Nat → Bool) : Prop := vs.length = N ∧ ∀ j x, vs[j]? = some x → x.refs = 0 ∧ x.res = r j ∧ x.S.length ≤ 64
theorem Sh.live {N : Nat} {vs : List V} {r : Nat → Bool} (h : Sh N vs r) (now j : Nat) (hj : j < N) : liveB vs now (j : Int) = (decide (j = now) || r j) := by
  obtain ⟨x, hx⟩ : ∃ x, vs[j]? = some x := ⟨_, List.getElem?_eq_getElem (by rw [h.1]; exact hj)⟩
  obtain ⟨h1, h2, _⟩ := h.2 j x hx
  rw [liveB_at hx, h1, h2]
  simp
theorem Sh.set {N : Nat} {vs : List V} {r r' : Nat → Bool} (h : Sh N vs r) {k : Nat} {x : V} (h1 : x.refs = 0) (h3 : x.S.length ≤ 64) (hr : ∀ j, j < N → r' j = if j = k then x.res else r j) : Sh N (vs.set k x) r' := by
  refine ⟨by rw [List.length_set]; exact h.1, fun j y hy => ?_⟩
  have hj : j < N := by have := (List.getElem?_eq_some_iff.1 hy).1; rw [List.length_set, h.1] at this; exact this
  rw [List.getElem?_set] at hy
  rw [hr j hj]
  by_cases hk : k = j
  · rw [if_pos hk] at hy
    split at hy
    · simp only [Option.some.injEq] at hy
      subst hy
      rw [if_pos hk.symm]
      exact ⟨h1, rfl, h3⟩
    · cases hy
  · rw [if_neg hk] at hy
    rw [if_neg (fun e => hk e.symm)]
    exact h.2 j y hy
theorem Sh.liveTo {N : Nat} {vs : List V} {r : Nat → Bool} (h : Sh N vs r) (now : Nat) : liveTo vs now vs.length = (List.range N).filter fun j => decide (j = now) || r j := by
  unfold Proofs.Ythfgccibiajneaa.liveTo
  rw [h.1]
  refine List.filter_congr fun j hj => ?_
  exact h.live now j (List.mem_range.1 hj)
theorem Sh.get {N : Nat} {vs : List V} {r : Nat → Bool} (h : Sh N vs r) {j : Nat} (hj : j < N) : ∃ x, vs[j]? = some x ∧ x.refs = 0 ∧ x.res = r j ∧ x.S.length ≤ 64 := by
  obtain ⟨x, hx⟩ : ∃ x, vs[j]? = some x := ⟨_, List.getElem?_eq_getElem (by rw [h.1]; exact hj)⟩
  exact ⟨x, hx, h.2 j x hx⟩
theorem Sl.md {w w' : World} {B B2 p t : Nat} {c : Cf} {vs : List V} {now : Nat} {lv sv v : Value} {L : List Mb} {S D : List Dp} (h : Po w B p t c vs now lv L sv S) (hm : Md p t w w') (hs : Sl 18 Dp.l 92 w B2 v D) : Sl 18 Dp.l 92 w' B2 v D := by
  obtain ⟨cs, hc⟩ := h.tAt
  refine hs.mod hm fun g hv hg => ?_
  rcases hg with rfl | rfl
  · exact hs.ne h.obj (by decide) hv
  · exact hs.ne hc (by decide) hv
/-- A pool whose versions nobody refers to. -/
def PS (w : World) (B p t : Nat) (c : Cf) (N n : Nat) (r : Nat → Bool) (now : Nat) : Prop := ∃ vs lv L sv S, Po w B p t c vs now lv L sv S ∧ Sh N vs r ∧ (S.length = 0 ∨ S.length = n)
theorem PS.below {w w' : World} {B p t : Nat} {c : Cf} {N n : Nat} {r : Nat → Bool} {now : Nat} (h : PS w B p t c N n r now) (hb : Below w.heap.size w w') : PS w' B p t c N n r now := by
  obtain ⟨vs, lv, L, sv, S, h1, h2⟩ := h
  exact ⟨vs, lv, L, sv, S, h1.below hb, h2⟩
/-- Which still wait behind i turns: each has its rank. -/
def rk (n q i j : Nat) : Bool := decide (1 ≤ j) && decide (j ≤ n) && decide (i ≤ (j - 1 + n - q) % n)
theorem rk_all : ((List.range 15).all fun n => (List.range n).all fun q => (List.range n).all fun i => rk n q i (1 + (i + q) % n) && ((List.range 16).all fun j => (if j = 1 + (i + q) % n then false else rk n q i j) == rk n q (i + 1) j) && (((List.range 16).filter fun j => decide (j = 1 + (i + q) % n) || rk n q (i + 1) j).length == n - i)) = true := by kernel_rfl
theorem rk_zero : ((List.range 15).all fun n => (List.range n).all fun q => (List.range 16).all fun j => (decide (1 ≤ j) && decide (j < n + 1)) == rk n q 0 j) = true := by kernel_rfl
theorem rk_facts {n q i : Nat} (hn : n < 15) (hq : q < n) (hi : i < n) : rk n q i (1 + (i + q) % n) = true ∧ (∀ j, j < 16 → rk n q (i + 1) j = if j = 1 + (i + q) % n then false else rk n q i j) ∧ ((List.range 16).filter fun j => decide (j = 1 + (i + q) % n) || rk n q (i + 1) j).length = n - i := by
  have := rk_all
  rw [List.all_eq_true] at this
  have := this n (List.mem_range.2 hn)
  rw [List.all_eq_true] at this
  have := this q (List.mem_range.2 hq)
  rw [List.all_eq_true] at this
  have := this i (List.mem_range.2 hi)
  simp only [Bool.and_eq_true, beq_iff_eq, List.all_eq_true] at this
  exact ⟨this.1.1, fun j hj => (this.1.2 j (List.mem_range.2 hj)).symm, this.2⟩
theorem rk_start {n q : Nat} (hn : n < 15) (hq : q < n) (j : Nat) (hj : j < 16) : (decide (1 ≤ j) && decide (j < n + 1)) = rk n q 0 j := by
  have := rk_zero
  rw [List.all_eq_true] at this
  have := this n (List.mem_range.2 hn)
  rw [List.all_eq_true] at this
  have := this q (List.mem_range.2 hq)
  rw [List.all_eq_true] at this
  have := this j (List.mem_range.2 hj)
  simpa only [beq_iff_eq] using this
theorem cok_roomy4 : cok (roomy 4) = true := by kernel_rfl
set_option maxRecDepth 100000 in
set_option maxHeartbeats 8000000 in
theorem serves_any (n turn : Int) (w : World) : Calls Try.prog 6 #[.int .i64 n, .int .i64 turn] w fun e w' => e = .returned (.bool true) ∧ Below w.heap.size w w' := by
  by_cases hn : n < 1 ∨ 14 < n
  · have hc : decide (n < 1) = true ∨ decide (n < 1) = false ∧ decide (14 < n) = true := by
      rcases hn with h | h
      · exact .inl (decide_eq_true h)
      · by_cases h1 : n < 1
        · exact .inl (decide_eq_true h1)
        · exact .inr ⟨decide_eq_false h1, decide_eq_true h⟩
    rcases hc with h1 | ⟨h1, h2⟩ <;>
    · clear hn
      go_enter Try.func6, Try.ntmps6
      go_wp2_with fail
      refine (pawake_any _).mono ?_
      rintro e w1 ⟨rfl, hb⟩
      have HB := Lib.hid hb
      clear hb
      go_wp2_with fail
      go_ret
      exact ⟨rfl, HB.out⟩
  · obtain ⟨m, rfl⟩ : ∃ m : Nat, n = m := ⟨n.toNat, by omega⟩
    have hm1 : 1 ≤ m := by omega
    have hm2 : m ≤ 14 := by omega
    have h1 : decide ((m : Int) < 1) = false := by simp; omega
    have h2 : decide ((14 : Int) < (m : Int)) = false := by simp; omega
    have KR := Lib.hid (fun w => roomy_below 4 w)
    have OK := Lib.hid cok_roomy4
    have hsl := Lib.hid (show (roomy 4).slots = ((32 : Nat) : Int) from rfl)
    have hve := Lib.hid (show (roomy 4).versions = ((16 : Nat) : Int) from rfl)
    generalize roomy 4 = c at *
    clear hn
    go_enter Try.func6, Try.ntmps6
    go_wp2_with fail
    refine (KR.out _).mono ?_
    rintro e w1 ⟨rfl, hb⟩
    have HB := Lib.hid hb
    clear hb
    go_wp2_with fail
    refine (pnew_any c none 0 0 32 16 [] _ (Rd.zero _ _ _ _) mOk_nil OK.out hsl.out hve.out (by omega) (by omega) (by omega) (by omega)).mono ?_
    rintro e w4 ⟨p, t, lv, sv, rfl, hP, hb4⟩
    have HBB := Lib.hid HB.out.size
    replace HB := Lib.hid (step_below HB.out hb4)
    have HP := Lib.hid (show PS w4 w1.heap.size p t c 16 32 (fun j => decide (1 ≤ j) && decide (j < 1)) 0 from ⟨_, _, _, _, _, hP, ⟨by simp, fun j x hx => by
      have hj : j < 16 := by have := (List.getElem?_eq_some_iff.1 hx).1; simpa using this
      rw [List.getElem?_set, List.getElem?_replicate] at hx
      have hr : (decide (1 ≤ j) && decide (j < 1)) = false := by simp; omega
      show x.refs = 0 ∧ x.res = (decide (1 ≤ j) && decide (j < 1)) ∧ x.S.length ≤ 64
      rw [hr]
      split at hx
      · simp only [List.length_replicate] at hx
        rw [if_pos (by omega)] at hx
        simp only [Option.some.injEq] at hx
        subst hx
        exact ⟨rfl, rfl, by simp [fillR]⟩
      · simp only [Option.some.injEq] at hx
        subst hx
        exact ⟨rfl, rfl, by simp [v0]⟩⟩, .inl rfl⟩)
    clear hP hb4
    generalize w1.heap.size = B at *
    go_wp2_with fail
    go_loopw [7, 8, 9] (fun s7 _ _ wx => ∃ i : Nat, s7 = .int .i64 (i : Nat) ∧ 1 ≤ i ∧ i ≤ m + 1 ∧ PS wx B p t c 16 32 (fun j => decide (1 ≤ j) && decide (j < i)) 0 ∧ Below w.heap.size w wx) (fun s7 _ _ _ => m + 1 - (intOf s7).toNat)
    case atStart => exact ⟨1, rfl, by omega, by omega, HP.out, HB.out⟩
    case round =>
      clear HP HB
      obtain ⟨i, rfl, hi1, hi2, hP, hb⟩ := hrel
      have HP := Lib.hid hP
      have HB := Lib.hid hb
      clear hP hb
      by_cases hlt : i ≤ m
      · have hltz : (i : Int) ≤ (m : Int) := by omega
        go_wp2_with fail
        refine (some_any i i (by omega) _).mono ?_
        rintro e w6 ⟨v6, rfl, hs6, hb6⟩
        have HS6 := Lib.hid hs6
        obtain ⟨a6, c6, hv6⟩ := hs6.form
        obtain ⟨l6, hl6⟩ : ∃ l, l = (som i i).length := ⟨_, rfl⟩
        rw [← hl6] at hv6
        subst hv6
        replace HB := Lib.hid (step_below HB.out hb6)
        obtain ⟨vs, lv, L, sv, S, h5, h6, h7⟩ := HP.out.below hb6
        replace HP := Lib.hid h5
        have HH := Lib.hid h6
        have HSL := Lib.hid h7
        clear hs6 hb6 hl6 h5 h6 h7
        go_wp2_with fail
        refine (reserve_at a6 l6 c6 _ 32 i (som i i) HP.out HS6.out (som_ok _ _) hsl.out (by omega) (by omega) HSL.out (by rw [HH.out.1]; omega) (fun j hj => by
          rw [HH.out.live 0 j (by omega)]
          by_cases h0 : j = 0
          · rw [decide_eq_true h0]; rfl
          · rw [decide_eq_true (show 1 ≤ j by omega), decide_eq_true hj]; simp) (by
          rw [HH.out.live 0 i (by omega), decide_eq_false (by omega), decide_eq_false (show ¬ i < i by omega)]; simp)).mono ?_
        rintro e w7 ⟨rfl, lv7, sv7, hP, hm⟩
        replace HB := Lib.hid (hm.bel HP.out HBB.out HB.out)
        have HSL1 := Lib.hid (fillR_len S (som i i) 32 (som_ok _ _))
        have HP7 := Lib.hid (show PS w7 B p t c 16 32 (fun j => decide (1 ≤ j) && decide (j < i + 1)) 0 from ⟨_, _, _, _, _, hP, HH.out.set rfl (by show (fillR S (som i i) 32).length ≤ 64; have := HSL1.out; omega) (fun j _ => by
          by_cases hj : j = i
          · subst hj
            rw [if_pos rfl, decide_eq_true (show 1 ≤ j by omega), decide_eq_true (show j < j + 1 by omega)]; rfl
          · rw [if_neg hj]
            congr 1
            rw [decide_eq_decide]
            omega), HSL1.out⟩)
        have HPN := Lib.hid hP
        clear hP hm HP HH HSL HSL1 HS6
        have hz : ((i : Int) != (i : Int)) = false := by simp
        go_wp2_with fail
        refine (now_any HPN.out).mono ?_
        rintro e w8 ⟨rfl, rfl⟩
        go_wp2_with fail
        go_roundw
        case rel => exact ⟨i + 1, by go_num, by omega, by omega, HP7.out, HB.out⟩
        case measure => simp [intOf]; omega
      · have hltz : ¬ (i : Int) ≤ (m : Int) := by omega
        obtain rfl : i = m + 1 := by omega
        obtain ⟨q, hq⟩ : ∃ q : Nat, turn % (m : Int) = q := ⟨(turn % (m : Int)).toNat, by have := Int.emod_nonneg turn (show (m : Int) ≠ 0 by omega); omega⟩
        have hqm : q < m := by have := Int.emod_lt_of_pos turn (show (0 : Int) < (m : Int) by omega); omega
        have HQ := Lib.hid hq
        replace HP := Lib.hid (show PS wr B p t c 16 32 (rk m q 0) 0 by
          obtain ⟨vs, lv, L, sv, S, h5, h6, h7⟩ := HP.out
          exact ⟨vs, lv, L, sv, S, h5, ⟨h6.1, fun j x hx => by
            obtain ⟨g1, g2, g3⟩ := h6.2 j x hx
            have hj : j < 16 := by have := (List.getElem?_eq_some_iff.1 hx).1; rw [h6.1] at this; exact this
            exact ⟨g1, by rw [g2]; exact rk_start (by omega) hqm j hj, g3⟩⟩, h7⟩)
        clear hq hlt hi1 hi2
        go_wp2_with fail
        go_loopw [10, 11, 12] (fun s10 _ _ wx => ∃ i now : Nat, s10 = .int .i64 (i : Nat) ∧ i ≤ m ∧ (i = 0 ∨ 0 < now) ∧ now < 16 ∧ PS wx B p t c 16 32 (rk m q i) now ∧ Below w.heap.size w wx) (fun s10 _ _ _ => m - (intOf s10).toNat)
        case atStart => exact ⟨0, 0, rfl, by omega, .inl rfl, by omega, HP.out, HB.out⟩
        case round =>
          clear HP HB
          obtain ⟨i, now, rfl, hi, hnow, hn16, hP, hb⟩ := hrel
          have HP := Lib.hid hP
          have HB := Lib.hid hb
          have HNW := Lib.hid (And.intro hnow hn16)
          clear hP hb hnow hn16
          by_cases hlt : i < m
          · have hltz2 : (i : Int) < (m : Int) := by omega
            obtain ⟨hk1, hk2, hk3⟩ := rk_facts (show m < 15 by omega) hqm hlt
            obtain ⟨z, hz⟩ : ∃ z, z = (i + q) % m := ⟨_, rfl⟩
            have hzm : z < m := by rw [hz]; exact Nat.mod_lt _ (by omega)
            have hzt : ((i : Int) + (q : Int)).tmod (m : Int) = (z : Int) := by rw [← Int.natCast_add, Int.tmod_eq_emod_of_nonneg (by omega), ← Int.natCast_emod, ← hz]
            rw [← hz] at hk1 hk2 hk3
            obtain ⟨u, hu⟩ : ∃ u, u = 1 + z := ⟨_, rfl⟩
            rw [← hu] at hk1 hk2 hk3
            have huz : (1 : Int) + (z : Int) = (u : Int) := by omega
            have hu15 : u < 16 := by omega
            have hu0 : 0 < u := by omega
            have HK := Lib.hid (And.intro hk1 (And.intro hk2 hk3))
            clear hk1 hk2 hk3 hz hu
            go_wp2_with fail
            refine (round_big turn m (by omega) (by omega) _).mono ?_
            rintro e w5 ⟨rfl, rfl⟩
            rw [HQ.out]
            obtain ⟨vs, lv, L, sv, S, h5, h6, h7⟩ := HP.out
            replace HP := Lib.hid h5
            have HH := Lib.hid h6
            have HSL := Lib.hid h7
            clear h5 h6 h7
            obtain ⟨x, hx, hx1, hx2, hx3⟩ := HH.out.get hu15
            have HX := Lib.hid hx
            have HX2 := Lib.hid (hx2.trans HK.out.1)
            have HX3 := Lib.hid (And.intro hx1 hx3)
            have HLV := Lib.hid (show liveB vs now (u : Int) = true by rw [HH.out.live now u hu15, HK.out.1]; simp)
            clear hx hx1 hx2 hx3
            have hmz : ¬ m = 0 := by omega
            go_wp2_with fail
            refine (slots_any HP.out u x HX.out HLV.out HX3.out.2).mono ?_
            rintro e w6 ⟨vS, rfl, hs6, hb6⟩
            have HS6 := Lib.hid hs6
            replace HB := Lib.hid (step_below HB.out hb6)
            replace HP := Lib.hid (HP.out.below hb6)
            clear hs6 hb6
            go_wp2_with fail
            clear hzt huz
            obtain ⟨aS, cS, hvS⟩ := HS6.out.form
            obtain ⟨ls, hls⟩ : ∃ l, l = x.S.length := ⟨_, rfl⟩
            rw [← hls] at hvS
            have hl64 : ls ≤ 64 := by rw [hls]; exact HX3.out.2
            subst hvS
            clear hls
            refine (serve_any HP.out u x HX.out HLV.out).mono ?_
            rintro e w7 (⟨h, _⟩ | ⟨_, rfl, hP7, hm⟩)
            · rw [HX2.out] at h; cases h
            replace HS6 := Lib.hid (Sl.md HP.out hm HS6.out)
            replace HB := Lib.hid (hm.bel HP.out HBB.out HB.out)
            have HH2 := Lib.hid (HH.out.set (r' := rk m q (i + 1)) (k := u) (x := { x with res := false }) HX3.out.1 HX3.out.2 HK.out.2.1)
            have HXX := Lib.hid (show (vs.set u { x with res := false })[u]? = some { x with res := false } by rw [List.getElem?_set_self]; rw [HH.out.1]; exact hu15)
            replace HLV := Lib.hid (show liveB (vs.set u { x with res := false }) u (u : Int) = true by rw [HH2.out.live u u hu15]; simp)
            replace HP := Lib.hid hP7
            clear hP7 hm
            go_wp2_with fail
            refine (serve_any HP.out u _ HXX.out HLV.out).mono ?_
            rintro e w8 (⟨_, rfl, rfl⟩ | ⟨h, _⟩)
            case inr => cases h
            have huu : ((u : Int) != (u : Int)) = false := by simp
            go_wp2_with fail
            refine (now_any HP.out).mono ?_
            rintro e w9 ⟨rfl, rfl⟩
            go_wp2_with fail
            refine (slots_any HP.out u _ HXX.out HLV.out HX3.out.2).mono ?_
            rintro e w10 ⟨vT, rfl, hs10, hb10⟩
            obtain ⟨aT, cT, hvT⟩ := hs10.form
            obtain ⟨lT, hlt2⟩ : ∃ l, l = x.S.length := ⟨_, rfl⟩
            have hlt64 : lT ≤ 64 := by rw [hlt2]; exact HX3.out.2
            have hvT2 : vT = .slice aT lT cT := by rw [hlt2]; exact hvT
            clear hvT
            subst hvT2
            replace HB := Lib.hid (step_below HB.out hb10)
            replace HP := Lib.hid (HP.out.below hb10)
            replace HS6 := Lib.hid (HS6.out.below hb10)
            have HS10 := Lib.hid hs10
            clear hs10 hb10 hlt2
            go_wp2_with fail
            refine (dips_any aT lT cT x.S aS ls cS x.S _ (HS10.out.rd Dp.l_length).1 (HS6.out.rd Dp.l_length).1 (Nat.le_trans hlt64 (by decide)) (Nat.le_trans hl64 (by decide))).mono ?_
            rintro e w11 ⟨rfl, hb11⟩
            rw [show decide (x.S = x.S) = true from decide_eq_true rfl]
            replace HB := Lib.hid (step_below HB.out hb11)
            replace HP := Lib.hid (HP.out.below hb11)
            clear hb11 HS6 HS10
            go_wp2_with fail
            refine (lives_any HP.out (-1)).mono ?_
            rintro e w12 ⟨v12, rfl, ho, hb12⟩
            obtain ⟨a12, n12, c12, rfl, hn12, _, _⟩ := ho.parts
            have hlen : (n12 : Int) = (m : Int) - (i : Int) := by
              rw [hn12, List.length_map, show cutP (-1) (liveTo (vs.set u { x with res := false }) u (vs.set u { x with res := false }).length) = liveTo (vs.set u { x with res := false }) u (vs.set u { x with res := false }).length from rfl, HH2.out.liveTo u, HK.out.2.2]
              omega
            replace HB := Lib.hid (step_below HB.out hb12)
            replace HP := Lib.hid (HP.out.below hb12)
            have hne : ((m : Int) - (i : Int) != (m : Int) - (i : Int)) = false := by simp
            clear ho hn12 hb12
            go_wp2_with fail
            go_roundw
            case rel => exact ⟨i + 1, u, by go_num, by omega, .inr hu0, hu15, ⟨_, _, _, _, _, HP.out, HH2.out, HSL.out⟩, HB.out⟩
            case measure => simp [intOf]; omega
          · have hltz2 : ¬ (i : Int) < (m : Int) := by omega
            obtain rfl : i = m := by omega
            obtain ⟨vs, lv, L, sv, S, h5, h6, h7⟩ := HP.out
            replace HP := Lib.hid h5
            have H0 := Lib.hid (show liveB vs now 0 = false by
              have := h6.live now 0 (by omega)
              rw [show ((0 : Nat) : Int) = 0 from rfl] at this
              rw [this, decide_eq_false (by have := HNW.out.1; omega)]; rfl)
            have H1 := Lib.hid (show liveB vs now (-1) = false from liveB_neg (by omega))
            have H2 := Lib.hid (show liveB vs now 99 = false from liveB_big (by rw [h6.1]; decide))
            clear h5 h6 h7
            go_wp2_with fail
            refine (serve_no HP.out 0 H0.out).mono ?_
            rintro e w5 ⟨rfl, rfl⟩
            go_wp2_with fail
            refine (serve_no HP.out (-1) H1.out).mono ?_
            rintro e w6 ⟨rfl, rfl⟩
            go_wp2_with fail
            refine (serve_no HP.out 99 H2.out).mono ?_
            rintro e w7 ⟨rfl, rfl⟩
            clear HP H0 H1 H2
            go_wp2_with fail
            refine (pawake_any _).mono ?_
            rintro e w8 ⟨rfl, hb⟩
            replace HB := Lib.hid (step_below HB.out hb)
            clear hb
            go_wp2_with fail
            go_ret
            exact ⟨rfl, HB.out⟩
end Go.Proofs.Ythfgccibiajneaa
