/-
  Texts in one, each behind those that it needs: UpSome, UpFresh, UpEi, UpBed, UpAwake.
-/
import Derived.Test.YtgjecemmejaieaaBau
/-
  law 22's some: so many members.
-/
namespace Go.Proofs.Ytgjecemmejaieaa
open Go.RowKit Go.Shelf
/-- The weights' numbers. -/
def smI (n : Int) : List Int := (List.range (n % 5).toNat).map fun i : Nat => wrap64 (n + (i : Int))
def sm (n : Int) : List Mb := srv (smI n)
theorem smI_len (n : Int) : (smI n).length = (n % 5).toNat := by simp [smI]
theorem sm_len (n : Int) : (sm n).length = (n % 5).toNat := by unfold sm; rw [srv_len, smI_len]
theorem sm_ok (n : Int) : mOk (sm n) = true := by
  have h5 : (n % 5).toNat < 5 := by omega
  unfold mOk
  rw [sm_len, decide_eq_true (by omega), Bool.true_and]
  refine mGo_of _ _ (fun x hx => ?_) ?_
  · obtain ⟨i, _, rfl⟩ := List.mem_map.1 hx
    exact ⟨adp_vld _, by simp only; omega, by simp only; omega, by simp⟩
  · unfold sm srv
    rw [List.pairwise_map]
    refine List.Pairwise.imp_of_mem (fun ha hb hab => ?_) (List.pairwise_lt_range (n := (smI n).length))
    have ha := List.mem_range.1 ha
    have hb := List.mem_range.1 hb
    rw [smI_len] at ha hb
    intro he
    have := adp_inj (by omega) (by omega) he
    omega
set_option maxRecDepth 100000 in
set_option maxHeartbeats 4000000 in
theorem usome_any (n : Int) (w : World) : Calls Try.prog 11 #[.int .i64 n] w fun e w' => ∃ v, e = .returned v ∧ Sl 19 Mb.l 108 w' w.heap.size v (sm n) ∧ Below w.heap.size w w' := by
  obtain ⟨m, hm⟩ : ∃ m : Nat, n % 5 = (m : Int) := ⟨(n % 5).toNat, by omega⟩
  have hm5 : m < 5 := by omega
  have HMM := Lib.hid hm
  have HLN := Lib.hid (show (smI n).length = m by rw [smI_len]; omega)
  have HST := Lib.hid (show ∀ j : Nat, j < m → (smI n).take (j + 1) = (smI n).take j ++ [wrap64 (n + (j : Int))] from fun j hj => by
    have : (smI n)[j]? = some (wrap64 (n + (j : Int))) := by
      unfold smI
      rw [List.getElem?_map, List.getElem?_range (by omega)]; rfl
    rw [List.take_add_one, this]; rfl)
  have HSM := Lib.hid (show sm n = srv (smI n) from rfl)
  generalize sm n = R at *
  generalize smI n = I at *
  clear hm
  go_enter Try.func11, Try.ntmps11
  go_wp2_with fail
  go_loopw [3, 4] (fun s3 s4 wx => ∃ j : Nat, s4 = .int .i64 (j : Nat) ∧ j ≤ m ∧ Sl 1 ei 3 wx w.heap.size s3 (I.take j) ∧ Below w.heap.size w wx) (fun _ s4 _ => m - (intOf s4).toNat)
  case atStart => exact ⟨0, rfl, Nat.zero_le _, Sl.nil _ _ _ _ _, Below.refl _ _⟩
  case round =>
    obtain ⟨j, rfl, hj, hs, hb⟩ := hrel
    have HS := Lib.hid hs
    have HB := Lib.hid hb
    clear hs hb
    go_wp2_with fail
    refine (round_big n 5 (by omega) (by omega) _).mono ?_
    rintro e w1 ⟨rfl, rfl⟩
    rw [HMM.out]
    by_cases hlt : j < m
    · have hltz : (j : Int) < (m : Int) := by omega
      have hol : (I.take j).length ≤ 6 := by rw [List.length_take]; omega
      have hbs := HB.out.size
      go_wp2_with (at_builtin; refine wpList_sl_app1 (y := wrap64 (n + (j : Int))) rfl ei_len ei_one slI infoI rfl (by decide) HS.out rfl (by unfold maxLen; omega) (by omega) hbs rfl rfl rfl rfl ?_; intro v' W5 hs5 hm5 ho5; have HS5 := Lib.hid hs5; have HM5 := Lib.hid hm5; clear hs5 hm5 ho5)
      have HB5 := Lib.hid (HB.out.trans (mod_below HM5.out HB.out.size (fun g hg => (HS.out.ge hg).1)))
      go_roundw
      case rel => exact ⟨j + 1, by simp, by omega, by rw [HST.out j hlt]; exact HS5.out, HB5.out⟩
      case measure => simp [intOf] <;> omega
    · have hltz : ¬ (j : Int) < (m : Int) := by omega
      have hjm : j = m := by omega
      have HT := Lib.hid (show I.take j = I from List.take_of_length_le (by rw [HLN.out]; omega))
      rw [HT.out] at HS
      obtain ⟨a5, c5, hv5⟩ := HS.out.form
      rw [HLN.out] at hv5
      subst hv5
      clear hlt hjm HT
      go_wp2_with fail
      refine (servers_any a5 m c5 I _ (HS.out.rd ei_len).1 (by omega)).mono ?_
      rintro e w2 ⟨v, rfl, hs, hb⟩
      have HS2 := Lib.hid (hs.base HB.out.size)
      have HB2 := Lib.hid (step_below HB.out hb)
      clear hs hb
      go_wp2_with fail
      go_ret
      exact ⟨_, rfl, by rw [HSM.out]; exact HS2.out, HB2.out⟩
end Go.Proofs.Ytgjecemmejaieaa

/-
  law 22's fresh.
-/
namespace Go.Proofs.Ytgjecemmejaieaa
open Go.RowKit Go.Shelf
/-- A configuration's numbers. -/
structure Cfg (c : Cf) (n nv N : Nat) : Prop where
  ok : cok c = true
  s : c.slots = n
  v : c.versions = nv
  b : c.bloom = N
  n1 : 1 ≤ n
  n2 : n ≤ 64
  v1 : 1 ≤ nv
  v2 : nv ≤ 64
  b1 : 1 ≤ N
  b2 : N ≤ 65536
  h1 : 0 ≤ c.hashes
  h2 : c.hashes ≤ 80
/-- The cells of a bed. -/
def bedc (p u m : Nat) (first next : Int) (ns : Value) : Array Value := #[.pointer (some ⟨p, 0, none⟩), .pointer (some ⟨u, 0, none⟩), .pointer (some ⟨m, 0, none⟩), .int .i64 first, .int .i64 next, ns]
/-- The document's side. -/
def Doc0 (w : World) (c : Cf) (m B n nv N : Nat) : Prop := ∃ gd p t mv sv B2, B ≤ B2 ∧ B ≤ gd ∧ B ≤ m ∧ At w gd 113 (rfc c N) ∧ At w m 115 (ruc p gd 0 (.slice none 0 0) 0 0 0) ∧
  Rp w B2 p t c ((List.replicate nv r0).set 0 ⟨true, false, 0, sv, fillR [] (sm 3) n⟩) 0 0 mv (sm 3)
theorem Doc0.below {w w' : World} {c : Cf} {m B n nv N : Nat} (h : Doc0 w c m B n nv N) (hb : Below w.heap.size w w') : Doc0 w' c m B n nv N := by
  obtain ⟨gd, p, t, mv, sv, B2, h1, h2, h3, h4, h5, h6⟩ := h
  exact ⟨gd, p, t, mv, sv, B2, h1, h2, h3, h4.below hb h4.lt, h5.below hb h5.lt, h6.below hb⟩
/-- The pool at first. -/
def d0 (p t n nv B : Nat) (lv sv : Value) : Pd := ⟨p, t, (List.replicate nv v0).set 0 ⟨sv, fillR [] (sm 3) n, 0, false⟩, 0, lv, sm 3, sv, fillR [] (sm 3) n, B⟩
def s0 (d : Pd) (N : Nat) : Us := ⟨d, List.replicate (nw N) 0, 0, .slice none 0 0, [], 0, 0, 0⟩
set_option maxRecDepth 100000 in
set_option maxHeartbeats 4000000 in
theorem fresh_any (c : Cf) (n nv N : Nat) (w : World) (hc : Cfg c n nv N) : Calls Try.prog 7 #[.agg (cc c)] w fun e w' => ∃ b m k d, e = .returned (.tuple #[.pointer (some ⟨b, 0, none⟩), .bool true]) ∧ w.heap.size ≤ b ∧
    At w' b 46 (bedc d.p k.u m 0 0 (.slice none 0 0)) ∧ k.B = w.heap.size ∧ k.N = N ∧ (∃ p t lv sv B, d = d0 p t n nv B lv sv) ∧ Up w' c k (s0 d N) ∧ Doc0 w' c m w.heap.size n nv N ∧ Below w.heap.size w w' := by
  have HK := Lib.hid hc
  obtain ⟨g, hg⟩ : ∃ g, g = w.heap.size := ⟨_, rfl⟩
  have HC := Lib.hid (at_new w 33 (cc c) g hg)
  have HB := Lib.hid ((Below.refl w.heap.size w).alloc (Nat.le_refl _) (.cells (cc c) 33))
  clear hc
  go_enter Try.func7, Try.ntmps7
  go_upto_region 1 with fail
  rw [← hg]
  clear hg
  generalize w.alloc (.cells (cc c) 33) = W1 at *
  have r1 := HC.out.row
  have o1 := HC.out.open
  have l1 := HC.out.lt
  go_wp2_with fail
  refine (new_ok c _ HK.out.ok).mono ?_
  rintro e w1 ⟨gf, rfl, hgf, hF, hb⟩
  have HF := Lib.hid hF
  replace HC := Lib.hid (HC.out.below hb HC.out.lt)
  replace HB := Lib.hid (step_below HB.out hb)
  clear r1 o1 l1 hb hF hgf
  go_upto_region 2 with fail
  have r1 := HC.out.row
  have o1 := HC.out.open
  have l1 := HC.out.lt
  refine region_sq (fun _ => False) [(0, true), (1, false), (2, false), (3, true), (4, true), (5, true), (6, true), (7, true)] (by kernel_rfl) (by kernel_rfl) (fun _ _ d _ _ h => by cases d <;> exact h) ?_
  repeat (first
    | (refine sq_yes rfl (by rfl) (fun w' hM => by ((try replace hM := hM.of_drew); obtain ⟨hR1, hR2, hR3⟩ := hM.rules; have hA := hM.agg; obtain ⟨hA1, hA2⟩ := hA; clear hM; go_simp; with_reducible rfl)) ?_; simp only [Act.put, List.setIfInBounds_toArray, List.set_cons_zero, List.set_cons_succ])
    | (refine sq_no rfl (by rfl) ?_; simp only [Act.put, List.setIfInBounds_toArray, List.set_cons_zero, List.set_cons_succ]))
  clear r1 o1 l1
  replace HC := Lib.hid HC.out.drew
  replace HF := Lib.hid HF.out.drew
  replace HB := Lib.hid HB.out.drew
  generalize w1.drew = W2 at *
  refine sq_do_yes rfl (by rfl) (fun K_ hK_ => ?_)
  go_wp2_with fail
  refine (usome_any 3 _).mono ?_
  rintro e w3 ⟨v3, rfl, hs, hb⟩
  obtain ⟨a3, c3, hv3⟩ := hs.form
  have HS := Lib.hid hs
  replace HC := Lib.hid (HC.out.below hb HC.out.lt)
  replace HF := Lib.hid (HF.out.below hb HF.out.lt)
  replace HB := Lib.hid (step_below HB.out hb)
  have HMa := Lib.hid (Mod.of_below (M := fun _ => False) hb)
  rw [show (sm 3).length = 3 from sm_len 3] at hv3
  subst hv3
  clear hs hb
  go_wp2_with fail
  refine ⟨HMa.out, ?_⟩
  clear HMa
  refine sq_do_yes rfl (by rfl) (fun K_ hK_ => ?_)
  go_wp2_with fail
  refine (pnew_any c a3 3 c3 n nv (sm 3) _ (HS.out.rd Mb.len).1 (sm_ok 3) HK.out.ok HK.out.s HK.out.v HK.out.n1 HK.out.n2 HK.out.v1 HK.out.v2).mono ?_
  rintro e w4 ⟨p, t, lv, sv, rfl, hP, hb⟩
  have HP := Lib.hid (show (d0 p t n nv w3.heap.size lv sv).P w4 c from hP)
  have HBS := HB.out.size
  have HPB := Lib.hid (show w.heap.size ≤ w3.heap.size from HBS)
  replace HC := Lib.hid (HC.out.below hb HC.out.lt)
  replace HF := Lib.hid (HF.out.below hb HF.out.lt)
  replace HB := Lib.hid (step_below HB.out hb)
  have HMa := Lib.hid (Mod.of_below (M := fun _ => False) hb)
  clear hP hb HS HBS
  go_wp2_with fail
  refine ⟨HMa.out, ?_⟩
  clear HMa
  repeat (first
    | (refine sq_yes rfl (by rfl) (fun w' hM => by ((try replace hM := hM.of_drew); obtain ⟨hR1, hR2, hR3⟩ := hM.rules; have hA := hM.agg; obtain ⟨hA1, hA2⟩ := hA; clear hM; go_simp; with_reducible rfl)) ?_; simp only [Act.put, List.setIfInBounds_toArray, List.set_cons_zero, List.set_cons_succ])
    | (refine sq_no rfl (by rfl) ?_; simp only [Act.put, List.setIfInBounds_toArray, List.set_cons_zero, List.set_cons_succ]))
  refine sq_end ?_
  generalize w3.heap.size = B3 at *
  have r1 := HC.out.row
  have o1 := HC.out.open
  have l1 := HC.out.lt
  go_wp2_with fail
  refine (unew_any c gf N w.heap.size (d0 p t n nv B3 lv sv) _ HF.out HP.out HK.out.ok HK.out.b HK.out.b1 HK.out.b2 HPB.out HB.out.size HK.out.h1 HK.out.h2).mono ?_
  rintro e w5 ⟨k, rfl, hkN, hkB, hU, hb⟩
  have HU := Lib.hid (show Up w5 c k (s0 (d0 p t n nv B3 lv sv) N) from hU)
  have HKK := Lib.hid (And.intro hkN hkB)
  replace HC := Lib.hid (HC.out.below hb HC.out.lt)
  replace HB := Lib.hid (step_below HB.out hb)
  clear r1 o1 l1 hkN hkB hU hb HP HF
  have r1 := HC.out.row
  have o1 := HC.out.open
  have l1 := HC.out.lt
  go_upto_region 6 with fail
  refine region_sq (fun _ => False) [(0, true), (1, true), (2, true), (3, true), (4, false), (5, false), (6, false), (7, true), (8, false), (9, true), (10, true)] (by kernel_rfl) (by kernel_rfl) (fun _ _ d _ _ h => by cases d <;> exact h) ?_
  repeat (first
    | (refine sq_yes rfl (by rfl) (fun w' hM => by ((try replace hM := hM.of_drew); obtain ⟨hR1, hR2, hR3⟩ := hM.rules; have hA := hM.agg; obtain ⟨hA1, hA2⟩ := hA; clear hM; go_simp; with_reducible rfl)) ?_; simp only [Act.put, List.setIfInBounds_toArray, List.set_cons_zero, List.set_cons_succ])
    | (refine sq_no rfl (by rfl) ?_; simp only [Act.put, List.setIfInBounds_toArray, List.set_cons_zero, List.set_cons_succ]))
  clear r1 o1 l1 HC
  replace HU := Lib.hid HU.out.drew
  replace HB := Lib.hid HB.out.drew
  generalize w5.drew = W6 at *
  refine sq_do_yes rfl (by rfl) (fun K_ hK_ => ?_)
  go_wp2_with fail
  refine (usome_any 3 _).mono ?_
  rintro e w7 ⟨v7, rfl, hs, hb⟩
  obtain ⟨a7, c7, hv7⟩ := hs.form
  have HS := Lib.hid hs
  replace HU := Lib.hid (HU.out.below hb)
  replace HB := Lib.hid (step_below HB.out hb)
  have HMa := Lib.hid (Mod.of_below (M := fun _ => False) hb)
  rw [show (sm 3).length = 3 from sm_len 3] at hv7
  subst hv7
  clear hs hb
  go_wp2_with fail
  refine ⟨HMa.out, ?_⟩
  clear HMa
  refine sq_do_yes rfl (by rfl) (fun K_ hK_ => ?_)
  go_wp2_with fail
  refine (rnew_any c a7 3 c7 n nv (sm 3) _ (HS.out.rd Mb.len).1 (sm_ok 3) HK.out.ok HK.out.s HK.out.v HK.out.n1 HK.out.n2 HK.out.v1 HK.out.v2).mono ?_
  rintro e w8 ⟨rp, rt, mv, rsv, rfl, hR, hb⟩
  have HR := Lib.hid hR
  have HBS := HB.out.size
  have HPB2 := Lib.hid (show w.heap.size ≤ w7.heap.size from HBS)
  replace HU := Lib.hid (HU.out.below hb)
  replace HB := Lib.hid (step_below HB.out hb)
  have HMa := Lib.hid (Mod.of_below (M := fun _ => False) hb)
  clear hR hb HS HBS
  go_wp2_with fail
  refine ⟨HMa.out, ?_⟩
  clear HMa
  generalize w7.heap.size = B7 at *
  refine sq_do_yes rfl (by rfl) (fun K_ hK_ => ?_)
  go_wp2_with fail
  refine (rnewu_any c rp N _ HK.out.b).mono ?_
  rintro e w9 ⟨gd, gm, rfl, hg1, hg2, hD, hM, hb⟩
  have HBS := HB.out.size
  have HD := Lib.hid (show Doc0 w9 c gm w.heap.size n nv N from ⟨gd, rp, rt, mv, rsv, B7, HPB2.out, Nat.le_trans HBS hg1, Nat.le_trans HBS hg2, hD, hM, HR.out.below hb⟩)
  replace HU := Lib.hid (HU.out.below hb)
  replace HB := Lib.hid (step_below HB.out hb)
  have HMa := Lib.hid (Mod.of_below (M := fun _ => False) hb)
  clear hg1 hg2 hD hM hb HR HBS
  go_wp2_with fail
  refine ⟨HMa.out, ?_⟩
  clear HMa
  repeat (first
    | (refine sq_yes rfl (by rfl) (fun w' hM => by ((try replace hM := hM.of_drew); obtain ⟨hR1, hR2, hR3⟩ := hM.rules; have hA := hM.agg; obtain ⟨hA1, hA2⟩ := hA; clear hM; go_simp; with_reducible rfl)) ?_; simp only [Act.put, List.setIfInBounds_toArray, List.set_cons_zero, List.set_cons_succ])
    | (refine sq_no rfl (by rfl) ?_; simp only [Act.put, List.setIfInBounds_toArray, List.set_cons_zero, List.set_cons_succ]))
  refine sq_do_yes rfl (by rfl) (fun K_ hK_ => ?_)
  go_wp2_with fail
  refine ⟨(Mod.refl _ _).alloc _, ?_⟩
  repeat (first
    | (refine sq_yes rfl (by rfl) (fun w' hM => by ((try replace hM := hM.of_drew); obtain ⟨hR1, hR2, hR3⟩ := hM.rules; have hA := hM.agg; obtain ⟨hA1, hA2⟩ := hA; clear hM; go_simp; with_reducible rfl)) ?_; simp only [Act.put, List.setIfInBounds_toArray, List.set_cons_zero, List.set_cons_succ])
    | (refine sq_no rfl (by rfl) ?_; simp only [Act.put, List.setIfInBounds_toArray, List.set_cons_zero, List.set_cons_succ]))
  refine sq_end ?_
  go_wp2_with fail
  exact bodyPost_ret (v := .tuple #[.pointer (some ⟨w9.heap.size, 0, none⟩), .bool true]) (by simp [results, Try.results7]) rfl ⟨w9.heap.size, gm, k, d0 p t n nv B3 lv sv, rfl, HB.out.size, at_new _ _ _ _ rfl, HKK.out.2, HKK.out.1, ⟨p, t, lv, sv, B3, rfl⟩, HU.out.alloc _, HD.out.below ((Below.refl _ _).alloc (Nat.le_refl _) _), HB.out.alloc HB.out.size _⟩
end Go.Proofs.Ytgjecemmejaieaa

/-
  An update of which so many were asked for, all ahead: how far it is, step by step.
-/
namespace Go.Proofs.Ytgjecemmejaieaa
open Go.RowKit Go.Shelf
theorem cfg_roomyN (m : Nat) (h : m < 4294967296) : Cfg (roomyOf m h) 32 16 65536 := ⟨by kernel_rfl, rfl, rfl, rfl, by decide, by decide, by decide, by decide, by decide, by decide, show (0 : Int) ≤ 4 by decide, show (4 : Int) ≤ 80 by decide⟩
theorem cfg_roomy (s : Int) : Cfg (roomy s) 32 16 65536 := cfg_roomyN _ _
/-- What was asked for, ahead of all. -/
structure Vs (vs : List V) (nv m : Nat) : Prop where
  len : vs.length = nv
  first : ∃ x, vs[0]? = some x ∧ x.refs = 0 ∧ x.res = false ∧ x.S.length ≤ 64 ∧ 0 < x.S.length
  mid : ∀ i, 1 ≤ i → i ≤ m → ∃ x, vs[i]? = some x ∧ x.refs = 0 ∧ x.res = true ∧ x.S.length ≤ 64
  rest : ∀ i, m < i → i < nv → vs[i]? = some v0
theorem live_some {vs : List V} {now i : Nat} {x : V} (h : vs[i]? = some x) : liveB vs now (i : Nat) = (decide (i = now) || decide (0 < x.refs) || x.res) := by
  unfold liveB
  rw [if_pos (by omega), Int.toNat_natCast, h]
theorem Vs.next {vs : List V} {nv m v : Nat} (h : Vs vs nv m) (hm : m + 1 < nv) (hv : v ≤ nv) (hl : ∀ i : Nat, i < v → liveB vs 0 i = true) (hn : v = nv ∨ liveB vs 0 v = false) : v = m + 1 := by
  have hd : ∀ i, m < i → i < nv → liveB vs 0 (i : Nat) = false := fun i h1 h2 => by
    rw [live_some (h.rest i h1 h2), decide_eq_false (by omega)]; rfl
  have h1 : v ≤ m + 1 := by
    rcases Nat.lt_or_ge (m + 1) v with h1 | h1
    · have := hl (m + 1) h1
      rw [hd (m + 1) (by omega) hm] at this
      cases this
    · exact h1
  rcases Nat.eq_or_lt_of_le h1 with h2 | h2
  · exact h2
  · exfalso
    rcases hn with rfl | hn
    · omega
    · have : liveB vs 0 (v : Nat) = true := by
        rcases Nat.eq_zero_or_pos v with h0 | h0
        · subst h0
          obtain ⟨x, hx, _⟩ := h.first
          rw [live_some hx]; rfl
        · obtain ⟨x, hx, _, hr, _⟩ := h.mid v h0 (by omega)
          rw [live_some hx, hr]; simp
      rw [this] at hn
      cases hn
theorem Vs.ask {vs : List V} {nv m : Nat} (h : Vs vs nv m) (hm : m + 1 < nv) (sv : Value) (S : List Dp) (hS : S.length ≤ 64) : Vs (vs.set (m + 1) ⟨sv, S, 0, true⟩) nv (m + 1) := by
  refine ⟨by rw [List.length_set]; exact h.len, ?_, fun i h1 h2 => ?_, fun i h1 h2 => ?_⟩
  · rw [List.getElem?_set_ne (by omega)]; exact h.first
  · rcases Nat.eq_or_lt_of_le h2 with rfl | h3
    · exact ⟨⟨sv, S, 0, true⟩, by rw [List.getElem?_set_self (by have := h.len; omega)], rfl, rfl, hS⟩
    · rw [List.getElem?_set_ne (by omega)]; exact h.mid i h1 (by omega)
  · rw [List.getElem?_set_ne (by omega)]; exact h.rest i (by omega) h2
theorem fillR_le (O : List Dp) (M : List Mb) (n : Nat) (hok : mOk M = true) (hn : n ≤ 64) : (fillR O M n).length ≤ 64 := by
  rcases fillR_len O M n hok with h | h <;> omega
theorem Vs.zero (sv : Value) (n nv : Nat) (hn : n ≤ 64) (hv : 1 ≤ nv) (hp : 0 < (fillR [] (sm 3) n).length) : Vs ((List.replicate nv v0).set 0 ⟨sv, fillR [] (sm 3) n, 0, false⟩) nv 0 := by
  refine ⟨by simp, ⟨⟨sv, fillR [] (sm 3) n, 0, false⟩, by rw [List.getElem?_set_self (by simp; omega)], rfl, rfl, fillR_le _ _ _ (sm_ok 3) hn, hp⟩, fun i h1 h2 => by omega, fun i h1 h2 => ?_⟩
  rw [List.getElem?_set_ne (by omega), List.getElem?_replicate, if_pos h2]
/-- How far it is: j are over, the next one is at its step. -/
structure Ei (m nv j q : Nat) (s : Us) : Prop where
  st : s.st = q
  len : s.d.vs.length = nv
  jm : j ≤ m
  mn : m < nv
  now : s.d.now = if q = 2 then j + 1 else j
  ver : ∀ i, i ≤ m → ∃ x, s.d.vs[i]? = some x ∧ x.refs = (if q = 2 ∧ i = j then 1 else 0) ∧ x.res = decide ((if q = 2 then j + 1 else j) < i) ∧ x.S.length ≤ 64 ∧ (i = 0 → 0 < x.S.length)
  l : s.l = List.range' (if q = 0 then j + 1 else j + 2) (m - (if q = 0 then j else j + 1))
  work : q ≠ 0 → s.work = j + 1
  old : q = 2 → s.old = j
theorem Ei.of {s : Us} {nv m : Nat} (h : Vs s.d.vs nv m) (hm : m < nv) (hst : s.st = 0) (hn : s.d.now = 0) (hl : s.l = List.range' 1 m) : Ei m nv 0 0 s := by
  refine ⟨hst, h.len, Nat.zero_le _, hm, by rw [hn]; rfl, fun i hi => ?_, by rw [hl]; rfl, fun h => absurd rfl h, fun h => absurd h (by decide)⟩
  rcases Nat.eq_zero_or_pos i with h0 | h0
  · subst h0
    obtain ⟨x, h1, h2, h3, h4, h5⟩ := h.first
    exact ⟨x, h1, by rw [h2]; rfl, by rw [h3]; rfl, h4, fun _ => h5⟩
  · obtain ⟨x, h1, h2, h3, h4⟩ := h.mid i h0 hi
    refine ⟨x, h1, by rw [h2]; rfl, ?_, h4, fun h => absurd h (by omega)⟩
    rw [h3]
    have : (if (0 : Nat) = 2 then 0 + 1 else 0) < i := by simpa using h0
    exact (decide_eq_true this).symm
section
variable {w w' : World} {c : Cf} {k : Uk} {s : Us} {m nv j : Nat}
/-- What a step of an update leaves. -/
def GoPost (w : World) (c : Cf) (k : Uk) (s : Us) (m nv j st : Nat) (ws : List Nat) (mark : Int) (w' : World) : Prop := ∃ s', Up w' c k s' ∧ Ei m nv j st s' ∧ s'.ws = ws ∧ s'.mark = mark ∧ s'.d.p = s.d.p ∧ Mod (UM k s) w w'
theorem go_ei0 (h : Up w c k s) (he : Ei m nv j 0 s) (hj : j < m) (f n : Int) : Calls Try.prog 12 #[.pointer (some ⟨k.u, 0, none⟩), .int .i64 f, .int .i64 n] w fun e w' =>
    e = .returned (.tuple #[.int .i64 0, .int .i64 0, .int .i64 0]) ∧ GoPost w c k s m nv j 1 s.ws n w' := by
  have hl : s.l = (j + 1) :: List.range' (j + 2) (m - (j + 1)) := by
    rw [he.l, if_pos rfl, if_pos rfl, show m - j = (m - (j + 1)) + 1 by omega, List.range'_succ]
  refine (ugo_still h f n (j + 1) _ he.st hl).mono ?_
  rintro e w' ⟨rfl, ⟨lv', hU, _⟩, hm⟩
  refine ⟨rfl, _, hU, ?_, rfl, rfl, rfl, hm.mono fun g _ hg => .inl hg⟩
  exact ⟨rfl, he.len, he.jm, he.mn, he.now, he.ver, rfl, fun _ => rfl, fun h => absurd h (by decide)⟩
theorem go_ei1 (h : Up w c k s) (he : Ei m nv j 1 s) (hj : j < m) (f n : Int) (hf : s.mark ≤ f) : Calls Try.prog 12 #[.pointer (some ⟨k.u, 0, none⟩), .int .i64 f, .int .i64 n] w fun e w' =>
    e = .returned (.tuple #[.int .i64 5, .int .i64 ((j + 1 : Nat) : Int), .int .i64 0]) ∧ GoPost w c k s m nv j 2 s.ws n w' := by
  obtain ⟨x, hx, hxr, hxs, hxl⟩ := he.ver j he.jm
  obtain ⟨y, hy, hyr, hys, hyl⟩ := he.ver (j + 1) hj
  have hnow : s.d.now = j := he.now
  have hwork : s.work = j + 1 := he.work (by decide)
  have hxr0 : x.refs = 0 := hxr
  have hys1 : y.res = true := by rw [hys]; simp
  have hyr0 : y.refs = 0 := hyr
  have hlen := he.len
  have hmn := he.mn
  refine (ugo_rec h f n x y he.st hf (by rw [hnow]; exact hx) (by omega) (by rw [hnow, live_some hx]; simp) (by rw [hwork]; exact hy) hys1 (by omega) ?_).mono ?_
  · rw [hnow, hwork]
    have : (s.d.vs.set j { x with refs := x.refs + 1 })[j + 1]? = some y := by rw [List.getElem?_set_ne (by omega)]; exact hy
    rw [live_some this, hys1]
    simp
  rintro e w' ⟨rfl, hU, hm⟩
  rw [hwork] at hU ⊢
  refine ⟨rfl, _, hU, ?_, rfl, rfl, rfl, hm⟩
  refine ⟨rfl, by simp [Pd.served, hlen], he.jm, he.mn, rfl, fun i hi => ?_, he.l, fun _ => rfl, fun _ => hnow⟩
  simp only [Pd.served, hnow]
  by_cases h1 : i = j + 1
  · subst h1
    refine ⟨{ y with res := false }, by rw [List.getElem?_set_self (by rw [List.length_set]; omega)], by rw [if_neg (by omega)]; exact hyr0, by simp, hyl⟩
  · rw [List.getElem?_set_ne (by omega)]
    by_cases h2 : i = j
    · subst h2
      refine ⟨{ x with refs := x.refs + 1 }, by rw [List.getElem?_set_self (by omega)], by simp [hxr0], ?_, hxl⟩
      simp only [hxs]
      simp
    · rw [List.getElem?_set_ne (by omega)]
      obtain ⟨z, hz, hzr, hzs, hzl⟩ := he.ver i hi
      refine ⟨z, hz, by rw [hzr, if_neg (by omega), if_neg (by omega)], ?_, hzl⟩
      rw [hzs, if_neg (by decide), if_pos trivial]
      by_cases h3 : j < i
      · rw [decide_eq_true h3, decide_eq_true (by omega)]
      · rw [decide_eq_false h3, decide_eq_false (by omega)]
theorem go_ei2 (h : Up w c k s) (he : Ei m nv j 2 s) (hj : j < m) (f n : Int) (hf : s.mark ≤ f) : Calls Try.prog 12 #[.pointer (some ⟨k.u, 0, none⟩), .int .i64 f, .int .i64 n] w fun e w' =>
    e = .returned (.tuple #[.int .i64 6, .int .i64 ((j + 1 : Nat) : Int), .int .i64 0]) ∧ GoPost w c k s m nv (j + 1) 0 (List.replicate (nw k.N) 0) n w' := by
  obtain ⟨x, hx, hxr, hxs, hxl⟩ := he.ver j he.jm
  have hold : s.old = j := he.old rfl
  have hnow : s.d.now = j + 1 := he.now
  have hwork : s.work = j + 1 := he.work (by decide)
  have hxr1 : x.refs = 1 := by rw [hxr]; simp
  have hlen := he.len
  have hmn := he.mn
  refine (ugo_end h f n x he.st hf (by rw [hold]; exact hx) (by omega) (by omega) (by rw [hold, live_some hx, hxr1]; simp)).mono ?_
  rintro e w' ⟨rfl, hU, hm⟩
  rw [hwork] at hU ⊢
  refine ⟨rfl, _, hU, ?_, rfl, rfl, rfl, hm⟩
  refine ⟨rfl, by simp [Pd.freed, hlen], hj, he.mn, hnow, fun i hi => ?_, ?_, fun h => absurd rfl h, fun h => absurd h (by decide)⟩
  · simp only [Pd.freed, hold]
    by_cases h2 : i = j
    · subst h2
      refine ⟨{ x with refs := x.refs - 1 }, by rw [List.getElem?_set_self (by omega)], by simp [hxr1], ?_, hxl⟩
      simp only [hxs]
      simp
    · rw [List.getElem?_set_ne (by omega)]
      obtain ⟨z, hz, hzr, hzs, hzl⟩ := he.ver i hi
      exact ⟨z, hz, by rw [hzr, if_neg (by omega), if_neg (by omega)], by rw [hzs, if_pos rfl, if_neg (by decide)], hzl⟩
  · have := he.l
    simpa using this
end
end Go.Proofs.Ytgjecemmejaieaa

/-
  law 22's bed; asks ahead of all.
-/
namespace Go.Proofs.Ytgjecemmejaieaa
open Go.RowKit Go.Shelf
structure Bd (w0 w : World) (c : Cf) (b m : Nat) (k : Uk) (s : Us) (f n : Int) (ns : Value) : Prop where
  bed : At w b 46 (bedc s.d.p k.u m f n ns)
  up : Up w c k s
  bel : Below w0.heap.size w0 w
  kB : k.B = w0.heap.size
section
variable {w0 w w' : World} {c : Cf} {b m : Nat} {k : Uk} {s : Us} {f n : Int} {ns : Value}
theorem Bd.not (h : Bd w0 w c b m k s f n ns) : ¬ UM k s b := h.up.not h.bed (by decide) (by decide) (by decide) (by decide) (by decide)
theorem Bd.act (h : Bd w0 w c b m k s f n ns) {s' : Us} (hm : Mod (UM k s) w w') (hu : Up w' c k s') (hp : s'.d.p = s.d.p) : Bd w0 w' c b m k s' f n ns :=
  ⟨by rw [hp]; exact h.bed.mod hm h.not, hu, h.up.bel hm (Nat.le_of_eq h.kB.symm) h.bel, h.kB⟩
theorem Bd.below (h : Bd w0 w c b m k s f n ns) (hb : Below w.heap.size w w') : Bd w0 w' c b m k s f n ns := ⟨h.bed.below hb h.bed.lt, h.up.below hb, step_below h.bel hb, h.kB⟩
theorem Bd.drew (h : Bd w0 w c b m k s f n ns) : Bd w0 w.drew c b m k s f n ns := ⟨h.bed.drew, h.up.drew, h.bel.drew, h.kB⟩
theorem Bd.cells (h : Bd w0 w c b m k s f n ns) : w.cell? ⟨b, 0, none⟩ = some (.pointer (some ⟨s.d.p, 0, none⟩)) ∧ w.cell? ⟨b, 1, none⟩ = some (.pointer (some ⟨k.u, 0, none⟩)) ∧ w.cell? ⟨b, 3, none⟩ = some (.int .i64 f) ∧ w.cell? ⟨b, 4, none⟩ = some (.int .i64 n) ∧ w.cell? ⟨b, 5, none⟩ = some ns ∧ b < w.heap.size :=
  ⟨h.bed.cell 0, h.bed.cell 1, h.bed.cell 3, h.bed.cell 4, h.bed.cell 5, h.bed.lt⟩
end
section
variable {w w' : World} {c : Cf} {k : Uk} {s : Us} {nv m : Nat}
def AskedV (w : World) (c : Cf) (k : Uk) (s : Us) (nv m n : Nat) (w' : World) : Prop := ∃ s', Up w' c k s' ∧ Vs s'.d.vs nv (m + 1) ∧ s'.d.now = 0 ∧ s'.st = s.st ∧ s'.l = s.l ++ [m + 1] ∧ s'.ws = s.ws ∧ s'.mark = s.mark ∧ s'.d.p = s.d.p ∧ (s'.d.S.length = 0 ∨ s'.d.S.length = n) ∧ Mod (UM k s) w w'
theorem ask_vs (h : Up w c k s) (hvs : Vs s.d.vs nv m) (hnow : s.d.now = 0) (am : Option Addr) (nm cm B2 n : Nat) (M : List Mb) (hM : Sl 19 Mb.l 108 w B2 (.slice am nm cm) M) (hok : mOk M = true) (hn : c.slots = n) (h1 : 1 ≤ n) (h2 : n ≤ 64)
    (hS : s.d.S.length = 0 ∨ s.d.S.length = n) (hm : m + 1 < nv) (hbig : s.l.length < 100000) :
    Calls Try.prog 10 #[.pointer (some ⟨k.u, 0, none⟩), .slice am nm cm] w fun e w' => e = .returned (.tuple #[.int .i64 ((m + 1 : Nat) : Int), .int .i64 0]) ∧ AskedV w c k s nv m n w' := by
  refine (uask_any h am nm cm B2 n M hM hok hn h1 h2 hS hbig).mono ?_
  rintro e w' ⟨v, hv, hl, hh⟩
  rw [hvs.len] at hv hh
  rw [hnow] at hl hh
  have hv1 : v = m + 1 := hvs.next hm hv hl (by
    rcases hh with ⟨h, _⟩ | ⟨_, h, _⟩
    · exact .inl h
    · exact .inr h)
  rcases hh with ⟨h, _⟩ | ⟨hlt, _, rfl, plv, psv, lv', hU, hm', _⟩
  · omega
  subst hv1
  refine ⟨rfl, _, hU, hvs.ask hm _ _ (fillR_le _ _ _ hok h2), hnow, rfl, rfl, rfl, rfl, rfl, fillR_len _ _ _ hok, hm'⟩
end
end Go.Proofs.Ytgjecemmejaieaa

/-
  law 22's awake.
-/
namespace Go.Proofs.Ytgjecemmejaieaa
open Go.RowKit Go.Shelf
theorem roomy_belU (s : Int) (w : World) : Calls Try.prog 17 #[.int .i64 s] w fun e w' => e = .returned (.agg (cc (roomy s))) ∧ Below w.heap.size w w' :=
  (roomy_any s w).mono fun _ _ ⟨h1, h2⟩ => ⟨h1, h2 ▸ (Below.refl _ w).alloc (Nat.le_refl _) _⟩
def k5 : Ky := akey 5 false false
def k6 : Ky := akey 6 false false
def ws5 : List Nat := insAll (List.replicate (nw 65536) 0) (pN (roomy 1) k5 65536)
theorem has5 : hasB ws5 (pN (roomy 1) k5 65536) = true := by kernel_rfl
theorem has6 : hasB ws5 (pN (roomy 1) k6 65536) = false := by kernel_rfl
theorem fill3 : 0 < (fillR [] (sm 3) 32).length := of_decide_eq_true (by kernel_rfl)
set_option maxRecDepth 100000 in
set_option maxHeartbeats 8000000 in
theorem uawake_any (w : World) : Calls Try.prog 6 #[] w fun e w' => e = .returned (.bool true) ∧ Below w.heap.size w w' := by
  have HRM := fun w => roomy_belU 1 w
  have CF := Lib.hid (cfg_roomy 1)
  have H5 := Lib.hid has5
  have H6 := Lib.hid has6
  have HW5 := Lib.hid (show insAll (List.replicate (nw 65536) 0) (pN (roomy 1) k5 65536) = ws5 from rfl)
  have HF3 := Lib.hid fill3
  generalize roomy 1 = c at *
  generalize ws5 = W5 at *
  go_enter Try.func6, Try.ntmps6
  go_wp2_with fail
  refine (HRM _).mono ?_
  rintro e w1 ⟨rfl, hb⟩
  have HB := Lib.hid hb
  clear hb HRM
  go_wp2_with fail
  refine (fresh_any c 32 16 65536 _ CF.out).mono ?_
  rintro e w2 ⟨b, m, k, d, rfl, hbb, hbd, hkB, hkN, ⟨p, t, lv, sv, B, rfl⟩, hU, -, hb⟩
  have HD := Lib.hid (show Bd w1 w2 c b m k (s0 (d0 p t 32 16 B lv sv) 65536) 0 0 (.slice none 0 0) from ⟨hbd, hU, hb, hkB⟩)
  have HKN := Lib.hid hkN
  clear hbb hbd hkB hU hb hkN
  obtain ⟨-, c1, -, -, -, lb⟩ := HD.out.cells
  go_wp2_with fail
  refine (ugo_busy HD.out.up 0 0 rfl).mono ?_
  rintro e w3 ⟨rfl, rfl⟩
  go_upto_region 5 with fail
  have nb := HD.out.not
  refine region_sq (UM k (s0 (d0 p t 32 16 B lv sv) 65536)) [(0, true), (1, true), (2, true), (3, true), (4, false), (5, false), (6, true), (7, true), (8, true), (9, true), (10, true)] (by kernel_rfl) (by kernel_rfl) (fun _ _ d _ _ h => by cases d <;> exact h) ?_
  repeat (first
    | (refine sq_yes rfl (by rfl) (fun w' hM => by ((try replace hM := hM.of_drew); obtain ⟨hR1, hR2, hR3⟩ := hM.rules; have hA := hM.agg; obtain ⟨hA1, hA2⟩ := hA; clear hM; go_simp; with_reducible rfl)) ?_; simp only [Act.put, List.setIfInBounds_toArray, List.set_cons_zero, List.set_cons_succ])
    | (refine sq_no rfl (by rfl) ?_; simp only [Act.put, List.setIfInBounds_toArray, List.set_cons_zero, List.set_cons_succ]))
  clear c1 lb
  replace HD := Lib.hid HD.out.drew
  generalize w3.drew = w3 at *
  refine sq_do_yes rfl (by rfl) (fun K_ hK_ => ?_)
  go_wp2_with fail
  refine (usome_any 2 _).mono ?_
  rintro e w4 ⟨v4, rfl, hs, hb⟩
  obtain ⟨a4, c4, hv4⟩ := hs.form
  have HS := Lib.hid hs
  replace HD := Lib.hid (HD.out.below hb)
  have HMa := Lib.hid (Mod.of_below (M := UM k (s0 (d0 p t 32 16 B lv sv) 65536)) hb)
  rw [show (sm 2).length = 2 from sm_len 2] at hv4
  subst hv4
  clear hs hb
  go_wp2_with fail
  refine ⟨HMa.out, ?_⟩
  clear HMa
  refine sq_do_yes rfl (by rfl) (fun K_ hK_ => ?_)
  go_wp2_with fail
  refine (ask_vs HD.out.up (Vs.zero sv 32 16 (by decide) (by decide) HF3.out) rfl a4 2 c4 _ 32 (sm 2) HS.out (sm_ok 2) CF.out.s (by decide) (by decide) (fillR_len _ _ _ (sm_ok 3)) (by decide) (show (0 : Nat) < 100000 by decide)).mono ?_
  rintro e w5 ⟨rfl, s5, hU, hvs, hnow, hst, hl, hws, hmk, hp, -, hm⟩
  have HE := Lib.hid (Ei.of hvs (by decide) hst hnow hl)
  have HWS := Lib.hid hws
  replace HD := Lib.hid (HD.out.act hm hU hp)
  have HMa := Lib.hid hm
  clear hU hvs hnow hst hl hws hmk hp hm HS
  go_wp2_with fail
  refine ⟨HMa.out, ?_⟩
  clear HMa nb
  repeat (first
    | (refine sq_yes rfl (by rfl) (fun w' hM => by ((try replace hM := hM.of_drew); obtain ⟨hR1, hR2, hR3⟩ := hM.rules; have hA := hM.agg; obtain ⟨hA1, hA2⟩ := hA; clear hM; go_simp; with_reducible rfl)) ?_; simp only [Act.put, List.setIfInBounds_toArray, List.set_cons_zero, List.set_cons_succ])
    | (refine sq_no rfl (by rfl) ?_; simp only [Act.put, List.setIfInBounds_toArray, List.set_cons_zero, List.set_cons_succ]))
  refine sq_end ?_
  obtain ⟨-, c1, -, -, -, lb⟩ := HD.out.cells
  go_wp2_with fail
  refine (go_ei0 HD.out.up HE.out (by decide) 0 0).mono ?_
  rintro e w6 ⟨rfl, s6, hU, he, hws, hmk, hp, hm⟩
  replace HE := Lib.hid he
  replace HWS := Lib.hid (hws.trans HWS.out)
  have HMK := Lib.hid hmk
  replace HD := Lib.hid (HD.out.act hm hU hp)
  clear hU he hws hmk hp hm c1 lb
  obtain ⟨-, c1, -, -, -, lb⟩ := HD.out.cells
  have nb := HD.out.not
  go_upto_region 7 with fail
  refine region_sq (UM k s6) [(0, true), (1, true), (2, true), (3, true), (4, false), (5, false), (6, true), (7, true), (8, true), (9, true), (10, true)] (by kernel_rfl) (by kernel_rfl) (fun _ _ d _ _ h => by cases d <;> exact h) ?_
  repeat (first
    | (refine sq_yes rfl (by rfl) (fun w' hM => by ((try replace hM := hM.of_drew); obtain ⟨hR1, hR2, hR3⟩ := hM.rules; have hA := hM.agg; obtain ⟨hA1, hA2⟩ := hA; clear hM; go_simp; with_reducible rfl)) ?_; simp only [Act.put, List.setIfInBounds_toArray, List.set_cons_zero, List.set_cons_succ])
    | (refine sq_no rfl (by rfl) ?_; simp only [Act.put, List.setIfInBounds_toArray, List.set_cons_zero, List.set_cons_succ]))
  clear c1 lb
  replace HD := Lib.hid HD.out.drew
  generalize w6.drew = w6 at *
  refine sq_do_yes rfl (by rfl) (fun K_ hK_ => ?_)
  go_wp2_with fail
  refine (key_any 5 false false _).mono ?_
  rintro e w7 ⟨rfl, hb⟩
  replace HD := Lib.hid (HD.out.below hb)
  have HMa := Lib.hid (Mod.of_below (M := UM k s6) hb)
  clear hb
  go_wp2_with fail
  refine ⟨HMa.out, ?_⟩
  clear HMa
  refine sq_do_yes rfl (by rfl) (fun K_ hK_ => ?_)
  go_wp2_with fail
  obtain ⟨x, hx, hxr, hxs, hxl, hx0⟩ := HE.out.ver 0 (by decide)
  have hn0 : s6.d.now = 0 := HE.out.now
  have HX := Lib.hid (hx0 rfl)
  refine (uver_rec HD.out.up (akey 5 false false) false x HE.out.st (by rw [hn0]; exact hx) (by rw [hn0, live_some hx]; simp) hxl).mono ?_
  rw [hn0]
  clear hx hxr hxs hxl hx0
  rintro e w8 ⟨rfl, hU, hm⟩
  rw [if_pos HX.out, HWS.out, HKN.out] at hU
  rw [show (s0 (d0 p t 32 16 B lv sv) 65536).ws = List.replicate (nw 65536) 0 from rfl, show akey 5 false false = k5 from rfl, HW5.out] at hU
  obtain ⟨s8, hs8⟩ : ∃ s8 : Us, s8 = { s6 with ws := W5 } := ⟨_, rfl⟩
  rw [← hs8] at hU
  replace HE := Lib.hid (show Ei (0 + 1) 16 0 1 s8 by rw [hs8]; exact ⟨HE.out.st, HE.out.len, HE.out.jm, HE.out.mn, HE.out.now, HE.out.ver, HE.out.l, HE.out.work, HE.out.old⟩)
  replace HD := Lib.hid (HD.out.act hm hU (by rw [hs8]))
  have HMa := Lib.hid hm
  replace HMK := Lib.hid (show s8.mark = 0 by rw [hs8]; exact HMK.out)
  replace HWS := Lib.hid (show s8.ws = W5 by rw [hs8])
  clear hs8
  clear hU hm hn0 HX x
  go_wp2_with fail
  refine ⟨HMa.out, ?_⟩
  clear HMa nb
  repeat (first
    | (refine sq_yes rfl (by rfl) (fun w' hM => by ((try replace hM := hM.of_drew); obtain ⟨hR1, hR2, hR3⟩ := hM.rules; have hA := hM.agg; obtain ⟨hA1, hA2⟩ := hA; clear hM; go_simp; with_reducible rfl)) ?_; simp only [Act.put, List.setIfInBounds_toArray, List.set_cons_zero, List.set_cons_succ])
    | (refine sq_no rfl (by rfl) ?_; simp only [Act.put, List.setIfInBounds_toArray, List.set_cons_zero, List.set_cons_succ]))
  refine sq_end ?_
  obtain ⟨-, c1, -, -, -, lb⟩ := HD.out.cells
  go_wp2_with fail
  refine (go_ei1 HD.out.up HE.out (by decide) 0 1 (by rw [HMK.out]; exact Int.le_refl 0)).mono ?_
  rintro e w9 ⟨rfl, s9, hU, he, hws, hmk, hp, hm⟩
  replace HE := Lib.hid he
  replace HWS := Lib.hid (hws.trans HWS.out)
  replace HMK := Lib.hid hmk
  replace HD := Lib.hid (HD.out.act hm hU hp)
  clear hU he hws hmk hp hm c1 lb
  obtain ⟨-, c1, -, -, -, lb⟩ := HD.out.cells
  go_upto_region 9 with fail
  refine region_sq (fun _ => False) [(0, true), (1, true), (2, true), (3, true), (4, false), (5, false), (6, true), (7, true), (8, true), (9, true), (10, true)] (by kernel_rfl) (by kernel_rfl) (fun _ _ d _ _ h => by cases d <;> exact h) ?_
  repeat (first
    | (refine sq_yes rfl (by rfl) (fun w' hM => by ((try replace hM := hM.of_drew); obtain ⟨hR1, hR2, hR3⟩ := hM.rules; have hA := hM.agg; obtain ⟨hA1, hA2⟩ := hA; clear hM; go_simp; with_reducible rfl)) ?_; simp only [Act.put, List.setIfInBounds_toArray, List.set_cons_zero, List.set_cons_succ])
    | (refine sq_no rfl (by rfl) ?_; simp only [Act.put, List.setIfInBounds_toArray, List.set_cons_zero, List.set_cons_succ]))
  clear c1 lb
  replace HD := Lib.hid HD.out.drew
  generalize w9.drew = w9 at *
  refine sq_do_yes rfl (by rfl) (fun K_ hK_ => ?_)
  go_wp2_with fail
  refine (key_any 5 false false _).mono ?_
  rintro e w10 ⟨rfl, hb⟩
  replace HD := Lib.hid (HD.out.below hb)
  have HMa := Lib.hid (Mod.of_below (M := fun _ => False) hb)
  clear hb
  go_wp2_with fail
  refine ⟨HMa.out, ?_⟩
  clear HMa
  refine sq_do_yes rfl (by rfl) (fun K_ hK_ => ?_)
  go_wp2_with fail
  refine (uver_sw HD.out.up (akey 5 false false) true HE.out.st).mono ?_
  rw [HWS.out, HKN.out, show akey 5 false false = k5 from rfl, H5.out, if_pos rfl, show s9.old = 0 from HE.out.old rfl]
  rintro e w11 ⟨rfl, hb⟩
  replace HD := Lib.hid (HD.out.below hb)
  have HMa := Lib.hid (Mod.of_below (M := fun _ => False) hb)
  clear hb
  go_wp2_with fail
  refine ⟨HMa.out, ?_⟩
  clear HMa
  repeat (first
    | (refine sq_yes rfl (by rfl) (fun w' hM => by ((try replace hM := hM.of_drew); obtain ⟨hR1, hR2, hR3⟩ := hM.rules; have hA := hM.agg; obtain ⟨hA1, hA2⟩ := hA; clear hM; go_simp; with_reducible rfl)) ?_; simp only [Act.put, List.setIfInBounds_toArray, List.set_cons_zero, List.set_cons_succ])
    | (refine sq_no rfl (by rfl) ?_; simp only [Act.put, List.setIfInBounds_toArray, List.set_cons_zero, List.set_cons_succ]))
  refine sq_end ?_
  obtain ⟨-, c1, -, -, -, lb⟩ := HD.out.cells
  go_upto_region 10 with fail
  refine region_sq (fun _ => False) [(0, true), (1, true), (2, true), (3, true), (4, false), (5, false), (6, true), (7, true), (8, true), (9, true), (10, true)] (by kernel_rfl) (by kernel_rfl) (fun _ _ d _ _ h => by cases d <;> exact h) ?_
  repeat (first
    | (refine sq_yes rfl (by rfl) (fun w' hM => by ((try replace hM := hM.of_drew); obtain ⟨hR1, hR2, hR3⟩ := hM.rules; have hA := hM.agg; obtain ⟨hA1, hA2⟩ := hA; clear hM; go_simp; with_reducible rfl)) ?_; simp only [Act.put, List.setIfInBounds_toArray, List.set_cons_zero, List.set_cons_succ])
    | (refine sq_no rfl (by rfl) ?_; simp only [Act.put, List.setIfInBounds_toArray, List.set_cons_zero, List.set_cons_succ]))
  clear c1 lb
  replace HD := Lib.hid HD.out.drew
  generalize w11.drew = w11 at *
  refine sq_do_yes rfl (by rfl) (fun K_ hK_ => ?_)
  go_wp2_with fail
  refine (key_any 6 false false _).mono ?_
  rintro e w12 ⟨rfl, hb⟩
  replace HD := Lib.hid (HD.out.below hb)
  have HMa := Lib.hid (Mod.of_below (M := fun _ => False) hb)
  clear hb
  go_wp2_with fail
  refine ⟨HMa.out, ?_⟩
  clear HMa
  refine sq_do_yes rfl (by rfl) (fun K_ hK_ => ?_)
  go_wp2_with fail
  refine (uver_sw HD.out.up (akey 6 false false) false HE.out.st).mono ?_
  rw [HWS.out, HKN.out, show akey 6 false false = k6 from rfl, H6.out, if_neg (by decide), show s9.d.now = 1 from HE.out.now]
  rintro e w13 ⟨rfl, hb⟩
  replace HD := Lib.hid (HD.out.below hb)
  have HMa := Lib.hid (Mod.of_below (M := fun _ => False) hb)
  clear hb
  go_wp2_with fail
  refine ⟨HMa.out, ?_⟩
  clear HMa
  repeat (first
    | (refine sq_yes rfl (by rfl) (fun w' hM => by ((try replace hM := hM.of_drew); obtain ⟨hR1, hR2, hR3⟩ := hM.rules; have hA := hM.agg; obtain ⟨hA1, hA2⟩ := hA; clear hM; go_simp; with_reducible rfl)) ?_; simp only [Act.put, List.setIfInBounds_toArray, List.set_cons_zero, List.set_cons_succ])
    | (refine sq_no rfl (by rfl) ?_; simp only [Act.put, List.setIfInBounds_toArray, List.set_cons_zero, List.set_cons_succ]))
  refine sq_end ?_
  obtain ⟨-, c1, -, -, -, lb⟩ := HD.out.cells
  go_wp2_with fail
  refine (ucan_any HD.out.up 0).mono ?_
  rw [show canB s9 0 = false by unfold canB; rw [HE.out.st, if_neg (by decide), HMK.out]; rfl]
  rintro e w14 ⟨rfl, rfl⟩
  go_wp2_with fail
  refine (go_ei2 HD.out.up HE.out (by decide) 1 1 (by rw [HMK.out]; exact Int.le_refl 1)).mono ?_
  rintro e w15 ⟨rfl, s15, hU, he, -, -, hp, hm⟩
  replace HE := Lib.hid he
  replace HD := Lib.hid (HD.out.act hm hU hp)
  clear hU he hp hm c1 lb
  obtain ⟨-, c1, -, -, -, lb⟩ := HD.out.cells
  go_wp2_with fail
  refine (ugo_nil 0 0 _).mono ?_
  rintro e w16 ⟨rfl, rfl⟩
  go_wp2_with fail
  refine (ustep_any HD.out.up).mono ?_
  rw [HE.out.st]
  rintro e w17 ⟨rfl, rfl⟩
  go_wp2_with fail
  refine (ustep_nil _).mono ?_
  rintro e w18 ⟨rfl, rfl⟩
  go_wp2_with fail
  go_ret
  exact ⟨rfl, step_below HB.out HD.out.bel⟩
end Go.Proofs.Ytgjecemmejaieaa
