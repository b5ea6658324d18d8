/-
  Texts in one, each behind those that it needs: UpNew, PoAwake, PoRfMem.
-/
import Derived.Test.YtgjecemmejaieaaBaq
/-
  An update: New, Waiting; nil receivers.
-/
namespace Go.Proofs.Ytgjecemmejaieaa
open Go.RowKit Go.Shelf
set_option maxRecDepth 100000 in
set_option maxHeartbeats 4000000 in
theorem unew_any (c : Cf) (gf N B : Nat) (d : Pd) (w : World) (hF : At w gf 100 (fc c)) (hP : d.P w c) (hc : cok c = true) (hN : c.bloom = N) (h1 : 1 ≤ N) (h2 : N ≤ 65536) (hB : B ≤ d.B) (hBw : B ≤ w.heap.size) (hh1 : 0 ≤ c.hashes) (hh2 : c.hashes ≤ 80) :
    Calls Try.prog 25 #[.pointer (some ⟨gf, 0, none⟩), .agg (cc c), .pointer (some ⟨d.p, 0, none⟩)] w fun e w' => ∃ k, e = .returned (.tuple #[.pointer (some ⟨k.u, 0, none⟩), .int .i64 0]) ∧ k.N = N ∧ k.B = B ∧
      Up w' c k ⟨d, List.replicate (nw N) 0, 0, .slice none 0 0, [], 0, 0, 0⟩ ∧ Below w.heap.size w w' := by
  have HF := Lib.hid (hF.alloc (.cells (cc c) 33))
  have HP := Lib.hid (show d.P (w.alloc (.cells (cc c) 33)) c from hP.alloc _)
  have HCK := Lib.hid (chk_yes c hc)
  have HNN := Lib.hid hN
  have HX := Lib.hid (And.intro h1 (And.intro h2 (And.intro hB (And.intro hBw (And.intro hh1 hh2)))))
  obtain ⟨g, hg⟩ : ∃ g, g = w.heap.size := ⟨_, rfl⟩
  have HC := Lib.hid (at_new w 33 (cc c) g hg)
  have HB := Lib.hid ((Below.refl w.heap.size w).alloc (Nat.le_refl _) (.cells (cc c) 33))
  clear hF hP hc hN h1 h2 hB hBw hh1 hh2
  go_enter Try.func25, Try.ntmps25
  go_upto_region 1 with fail
  rw [← hg]
  clear hg
  generalize w.alloc (.cells (cc c) 33) = W1 at *
  have r1 := HC.out.row
  have o1 := HC.out.open
  have l1 := HC.out.lt
  go_wp2_with fail
  refine (check_any c _).mono ?_
  rintro e w1 ⟨rfl, hb⟩
  rw [HCK.out]
  replace HC := Lib.hid (HC.out.below hb HC.out.lt)
  replace HF := Lib.hid (HF.out.below hb HF.out.lt)
  replace HP := Lib.hid (show d.P w1 c from HP.out.below hb)
  replace HB := Lib.hid (step_below HB.out hb)
  clear r1 o1 l1 hb
  have c3 := HC.out.cell 3
  rw [cl_head c 3 (by omega)] at c3
  simp only [Cf.head, List.getElem?_cons_succ, List.getElem?_cons_zero, HNN.out] at c3
  have l1 := HC.out.lt
  go_wp2_with fail
  refine (bnew_ok gf N HX.out.1 HX.out.2.1 _).mono ?_
  rintro e w2 ⟨rfl, hw2⟩
  obtain ⟨gw, hgw⟩ : ∃ g, g = w1.heap.size := ⟨_, rfl⟩
  have hBB := HB.out.size
  have hA : At w2 gw 131 (wd (List.replicate (nw N) 0)) := by
    rw [hw2]
    exact (at_new _ _ _ _ hgw).alloc _
  have hG : At w2 (gw + 1) 129 (bcs gf N gw (nw N)) := by
    rw [hw2, ← hgw]
    exact at_new _ _ _ _ (by simp [hgw])
  have hb : Below w1.heap.size w1 w2 := by
    rw [hw2]
    exact ((Below.refl _ w1).alloc (Nat.le_refl _) _).alloc (by simp) _
  rw [← hgw]
  have HG := Lib.hid (And.intro hA hG)
  have HGW := Lib.hid (show w.heap.size ≤ gw by omega)
  replace HF := Lib.hid (HF.out.below hb HF.out.lt)
  replace HP := Lib.hid (show d.P w2 c from HP.out.below hb)
  replace HB := Lib.hid (step_below HB.out hb)
  clear hA hG hb hw2 hgw c3 l1 HC hBB
  go_wp2_with fail
  refine bodyPost_ret (v := .tuple #[.pointer (some ⟨w2.heap.size, 0, none⟩), .int .i64 0]) (by simp [results, Try.results25]) rfl ⟨⟨w2.heap.size, gf, gw + 1, gw, N, B⟩, rfl, rfl, rfl, ?_, HB.out.alloc HB.out.size _⟩
  have hbs := HB.out.size
  exact
    { obj := at_new _ _ _ _ rfl
      qu := .inl ⟨rfl, rfl⟩
      pool := show d.P _ c from HP.out.alloc _
      flt := HG.out.2.alloc _
      wds := HG.out.1.alloc _
      fam := HF.out.alloc _
      bu := Nat.le_trans HX.out.2.2.2.1 hbs
      bd := HX.out.2.2.1
      bg := Nat.le_trans HX.out.2.2.2.1 HGW.out
      hl := by simp
      hx := by intro x hx; rw [(List.mem_replicate.1 hx).2]; omega
      hN := HX.out.1
      hN2 := HX.out.2.1
      h1 := HX.out.2.2.2.2.1
      h2 := HX.out.2.2.2.2.2
      hb1 := by have := HX.out.1; rw [HNN.out]; omega
      big := by simp }
section
variable {w w' : World} {c : Cf} {k : Uk} {s : Us}
theorem nis_ei (l : List Nat) : nis l = (l.map fun v : Nat => (v : Int)).flatMap ei := by
  induction l with
  | nil => rfl
  | cons a l ih => simp only [nis, List.map_cons, List.flatMap_cons] at ih ⊢; rw [ih]; rfl
/-- Who waits, read. -/
theorem Qu.rdI {B : Nat} {v : Value} {l : List Nat} {a : Option Addr} {n q : Nat} (h : Qu 3 w B v (nis l)) (hv : v = .slice a n q) : Rd 1 ei w a n (l.map fun v : Nat => (v : Int)) := by
  rcases h with ⟨h1, h2⟩ | ⟨g, o, c, cur, h1, h2, h3, h4, h5, h6, h7⟩
  · rw [h1] at hv
    simp only [Value.slice.injEq] at hv
    obtain ⟨rfl, rfl, rfl⟩ := hv
    have : l = [] := by cases l with | nil => rfl | cons a l => simp [nis] at h2
    subst this
    exact ⟨rfl, fun h => absurd h (by omega)⟩
  · rw [h1] at hv
    simp only [Value.slice.injEq, nis_len] at hv
    obtain ⟨rfl, rfl, rfl⟩ := hv
    refine ⟨by simp, fun _ => ⟨g, o, rfl, h3.lt, fun i x hx j hj => ?_⟩⟩
    have hj0 : j = 0 := by omega
    subst hj0
    rw [Nat.mul_one, Nat.add_zero, h3.cell]
    have hx2 : (nis l)[i]? = some (.int .i64 x) := by
      rw [List.getElem?_map] at hx
      unfold nis
      rw [List.getElem?_map]
      cases hl : l[i]? with
      | none => rw [hl] at hx; cases hx
      | some y => rw [hl] at hx; simp only [Option.map_some, Option.some.injEq] at hx; rw [← hx]; rfl
    exact h7 i _ hx2
set_option maxHeartbeats 1000000 in
theorem cloneI_any (a : Option Addr) (n c : Nat) (L : List Int) (w : World) (h : Rd 1 ei w a n L) (hn : n ≤ 200000) :
    Calls Try.prog 39 #[.slice a n c] w fun e w' => ∃ v, e = .returned v ∧ Sl 1 ei 3 w' w.heap.size v L ∧ Below w.heap.size w w' := by
  have heq := fun (w : World) (a : Option Addr) (n c : Nat) => Lib.run_eql_slice_nil (P := Try.prog) w 22 3 a n c 0 0 slI
  cases a with
  | none =>
    have h0 := rd_none h
    subst h0
    clear h
    go_enter Try.func39, Try.ntmps39
    go_wp2_with fail
    go_ret
    exact ⟨_, rfl, Sl.nil _ _ _ _ _, Below.refl _ _⟩
  | some ad =>
    have H := Lib.hid h
    clear h
    go_enter Try.func39, Try.ntmps39
    go_wp2_with (at_builtin; refine wpList_sl_app (B := w.heap.size) rfl ei_len ei_one slI infoI rfl (by decide) (Sl.empty 1 ei 3 w _ rfl (Nat.le_refl _)) (H.out.alloc _) (by simp [maxLen]; omega) (by simp; omega) (by simp) rfl rfl rfl ?_; intro v' w1 hs hm _; have HS := Lib.hid hs; have HM := Lib.hid hm; clear hs hm)
    go_ret
    exact ⟨_, rfl, HS.out, ((Below.refl _ _).alloc (Nat.le_refl _) _).trans (mod_below HM.out (by simp) (fun g hg => by simp only [Value.ownBlock, Option.some.injEq] at hg; omega))⟩
theorem uwait_any (h : Up w c k s) : Calls Try.prog 20 #[.pointer (some ⟨k.u, 0, none⟩)] w fun e w' => ∃ v, e = .returned v ∧ Sl 1 ei 3 w' w.heap.size v (s.l.map fun v : Nat => (v : Int)) ∧ Below w.heap.size w w' := by
  obtain ⟨-, -, -, c3, -, -, -, lu⟩ := h.cells
  obtain ⟨a, q, hv, -⟩ := h.qu.form
  have HR := Lib.hid (h.qu.rdI hv)
  rw [hv] at c3
  have HB := Lib.hid h.big
  rw [nis_len] at c3 HR
  clear h hv
  generalize k.u = u at *
  go_enter Try.func20, Try.ntmps20
  go_wp2_with fail
  refine (cloneI_any a s.l.length q _ w HR.out (by have := HB.out; omega)).mono ?_
  rintro e w1 ⟨v, rfl, hs, hb⟩
  have HS := Lib.hid hs
  have HBB := Lib.hid hb
  obtain ⟨av, cv, rfl⟩ := hs.form
  rw [List.length_map] at HS
  clear hs hb
  go_wp2_with fail
  go_ret
  exact ⟨_, rfl, by simpa using HS.out, HBB.out⟩
end
theorem ugo_nil (f n : Int) (w : World) : Calls Try.prog 12 #[.pointer none, .int .i64 f, .int .i64 n] w fun e w' => e = .returned (.tuple #[.int .i64 0, .int .i64 0, .int .i64 5]) ∧ w' = w := by
  have hcan : Calls Try.prog 18 #[.pointer none, .int .i64 f] w fun e w' => e = .returned (.bool false) ∧ w' = w := by
    go_enter Try.func18, Try.ntmps18
    go_wp2_with fail
    go_ret
    exact ⟨rfl, rfl⟩
  go_enter Try.func12, Try.ntmps12
  go_wp2_with fail
  refine hcan.mono ?_
  rintro e w1 ⟨rfl, rfl⟩
  go_wp2_with fail
  exact bodyPost_ret (v := .tuple #[.int .i64 0, .int .i64 0, .int .i64 5]) (by simp [results, Try.results12]) rfl ⟨rfl, rfl⟩
theorem ustep_nil (w : World) : Calls Try.prog 19 #[.pointer none] w fun e w' => e = .returned (.int .i64 0) ∧ w' = w := by
  go_enter Try.func19, Try.ntmps19
  go_wp2_with fail
  go_ret
  exact ⟨rfl, rfl⟩
end Go.Proofs.Ytgjecemmejaieaa

/-
  awake (chapter 18).
-/
namespace Go.Proofs.Ytgjecemmejaieaa
open Go.RowKit Go.Shelf
theorem exec_bldC4 (parts : Array (Nat × Operand)) (dst : Option Tmp) (ty : TypeId) (pos : String) (after : Array Edge) (g : Option (Nat × Bool)) (f : Operand → Value) (w : World) :
    (execOp f ⟨dst, .build 33 parts, ty, pos, after, g⟩).run Try.prog w = bldX Try.prog 33 (parts.map fun (i, x) => (i, f x)) w := rfl
attribute [local go_sem ↓] exec_bldC4
theorem cok_roomy12 : cok ((roomy 1).setV 2) = true := by kernel_rfl
end Go.Proofs.Ytgjecemmejaieaa

/-
  The document's place and Members.
-/
namespace Go.Proofs.Ytgjecemmejaieaa
open Go.RowKit Go.Shelf
set_option maxRecDepth 100000 in
set_option maxHeartbeats 4000000 in
/-- Which member a server is. -/
theorem place_dp (am : Option Addr) (nm cm : Nat) (M : List Mb) (d : Dp) (w : World) (hM : Rd 19 Mb.l w am nm M) (hn : nm ≤ 32) :
    Calls Try.prog 63 #[.slice am nm cm, .agg (dc d)] w fun e w' => Below w.heap.size w w' ∧ ((e = .returned (.int .i64 (-1)) ∧ ∀ x ∈ M, x.d ≠ d) ∨ ∃ k x, e = .returned (.int .i64 (k : Nat)) ∧ M[k]? = some x ∧ x.d = d ∧ ∀ z ∈ M.take k, z.d ≠ d) := by
  have HM := Lib.hid hM
  have HL := Lib.hid hM.1
  clear hM
  go_enter Try.func63, Try.ntmps63
  go_upto_region 1 with fail
  obtain ⟨bx, hbx⟩ : ∃ bx, bx = w.heap.size := ⟨_, rfl⟩
  rw [← hbx]
  have HX := Lib.hid (at_new w 88 (dc d) bx hbx)
  replace HM := Lib.hid (HM.out.alloc (.cells (dc d) 88))
  have HB := Lib.hid ((Below.refl w.heap.size w).alloc (Nat.le_refl _) (.cells (dc d) 88))
  clear hbx
  generalize w.alloc (.cells (dc d) 88) = W at *
  go_wp2_with fail
  go_loopw [5] (fun s5 wr => ∃ j : Nat, s5 = .int .i64 (j : Nat) ∧ j ≤ nm ∧ (∀ z ∈ M.take j, z.d ≠ d) ∧ Below W.heap.size W wr) (fun s5 _ => nm - (intOf s5).toNat)
  case atStart => exact ⟨0, rfl, Nat.zero_le _, by simp, Below.refl _ _⟩
  case round =>
    obtain ⟨j, rfl, hj, hz, hb⟩ := hrel
    have HZ := Lib.hid hz
    have HBW := Lib.hid hb
    clear hz hb
    by_cases hlt : j < nm
    · have hltz : (j : Int) < (nm : Int) := by omega
      obtain ⟨x, hx⟩ : ∃ x, M[j]? = some x := ⟨_, List.getElem?_eq_getElem (by rw [HL.out]; exact hlt)⟩
      have HXX := Lib.hid hx
      obtain ⟨b, o, rfl, hbl, ha, hao⟩ := (HM.out.below HBW.out).dip hx
      obtain ⟨ha2, hao2⟩ := (HX.out.below HBW.out HX.out.lt).agg 0 18 (by rw [dc_size]; omega)
      rw [show 0 + 18 = 18 from rfl, dc_all] at ha2
      have lx := (HX.out.below HBW.out HX.out.lt).lt
      clear hx
      by_cases hxd : x.d = d
      · have HXD := Lib.hid hxd
        have hdd : decide (x.d = d) = true := by simpa using hxd
        clear hxd
        go_wp2_with fail
        refine region_sq (fun _ => False) [(0, true), (1, true), (2, true), (3, true), (4, true), (5, true), (6, true)] (by kernel_rfl) (by kernel_rfl) (fun _ _ d _ _ h => by cases d <;> exact h) ?_
        repeat (first
          | (refine sq_yes rfl (by rfl) (fun w' hM => by ((try replace hM := hM.of_drew); obtain ⟨hR1, hR2, hR3⟩ := hM.rules; have hA := hM.agg; obtain ⟨hA1, hA2⟩ := hA; clear hM; go_simp; with_reducible rfl)) ?_; simp only [Act.put, List.setIfInBounds_toArray, List.set_cons_zero, List.set_cons_succ])
          | (refine sq_no rfl (by rfl) ?_; simp only [Act.put, List.setIfInBounds_toArray, List.set_cons_zero, List.set_cons_succ]))
        refine sq_end ?_
        go_wp2_with fail
        go_ret
        exact ⟨step_below HB.out HBW.out.drew, .inr ⟨j, x, rfl, HXX.out, HXD.out, HZ.out⟩⟩
      · have HXD := Lib.hid hxd
        have hdd : decide (x.d = d) = false := by simpa using hxd
        clear hxd
        go_wp2_with fail
        refine region_sq (fun _ => False) [(0, true), (1, true), (2, true), (3, true), (4, true), (5, true), (6, true)] (by kernel_rfl) (by kernel_rfl) (fun _ _ d _ _ h => by cases d <;> exact h) ?_
        repeat (first
          | (refine sq_yes rfl (by rfl) (fun w' hM => by ((try replace hM := hM.of_drew); obtain ⟨hR1, hR2, hR3⟩ := hM.rules; have hA := hM.agg; obtain ⟨hA1, hA2⟩ := hA; clear hM; go_simp; with_reducible rfl)) ?_; simp only [Act.put, List.setIfInBounds_toArray, List.set_cons_zero, List.set_cons_succ])
          | (refine sq_no rfl (by rfl) ?_; simp only [Act.put, List.setIfInBounds_toArray, List.set_cons_zero, List.set_cons_succ]))
        refine sq_end ?_
        go_wp2_with fail
        go_roundw
        case rel => exact ⟨j + 1, by go_num, by omega, fun z hz => by
          rw [List.take_add_one, HXX.out] at hz
          rcases List.mem_append.1 hz with hz | hz
          · exact HZ.out z hz
          · simp only [Option.toList_some, List.mem_singleton] at hz
            rw [hz]; exact HXD.out, HBW.out.drew⟩
        case measure => simp [intOf] <;> omega
    · have hltz : ¬ (j : Int) < (nm : Int) := by omega
      have HZA := Lib.hid (show ∀ x ∈ M, x.d ≠ d by
        have := HZ.out
        rwa [List.take_of_length_le (by rw [HL.out]; omega)] at this)
      go_wp2_with fail
      go_ret
      exact ⟨step_below HB.out HBW.out, .inl ⟨rfl, HZA.out⟩⟩
theorem refValid_below (a : Adr) (w : World) : Calls Try.prog 61 #[.agg (ac a)] w fun e w' => e = .returned (.bool (vld a)) ∧ Below w.heap.size w w' :=
  (refValid_any a w).mono fun _ _ ⟨h1, h2⟩ => ⟨h1, h2 ▸ (Below.refl _ w).alloc (Nat.le_refl _) _⟩
theorem loadAx (x : Operand) (dst : Option Tmp) (t : TypeId) (pos : String) (after : Array Edge) (g : Option (Nat × Bool)) (f : Operand → Value) (w : World)
    (hx : plainPtr (f x) = true) (ho : aggOk w (blk (f x)) (offOf (f x)) 17 = true) :
    (execOp f ⟨dst, .load 30 x, t, pos, after, g⟩).run Try.prog w = .ok (.value (.agg (aggAt w (blk (f x)) (offOf (f x)) 17))) w :=
  exec_load_agg 30 _ 17 Try.underlying30 rfl sizeA x dst t pos after g f w hx ho
attribute [local go_sem ↓] loadAx
theorem Rd.adrw {w : World} {a : Option Addr} {m : Nat} {L : List Mb} (h : Rd 19 Mb.l w a m L) {i : Nat} {x : Mb} (hx : L[i]? = some x) :
    ∃ b o, a = some ⟨b, o, none⟩ ∧ b < w.heap.size ∧ (aggAt w b (o + i * 19) 17 = ac x.d.a ∧ aggOk w b (o + i * 19) 17 = true) ∧ w.cell? ⟨b, o + i * 19 + 18, none⟩ = some (.int .i64 x.w) ∧ aggAt w b (o + i * 19) 18 = dc x.d ∧ aggOk w b (o + i * 19) 18 = true := by
  obtain ⟨b, o, hab, hlt, h1, h2⟩ := h.dip hx
  have hi : i < m := by have := (List.getElem?_eq_some_iff.1 hx).1; rw [h.1] at this; exact this
  obtain ⟨b', o', hab', _, hc⟩ := h.2 (by omega)
  rw [hab] at hab'
  simp only [Option.some.injEq, Addr.mk.injEq, and_true] at hab'
  obtain ⟨rfl, rfl⟩ := hab'
  refine ⟨b, o, hab, hlt, agg_of (vs := x.d.a.l) (Adr.l_length _) (fun j hj => ?_), ?_, h1, h2⟩
  · rw [hc i x hx j (by omega)]
    have e1 := ml_dip x j (by omega)
    rw [ml_get, dl_adr _ _ hj, ac_get] at e1
    exact e1
  · rw [hc i x hx 18 (by omega)]
    have := mc_18? x
    rw [ml_get] at this
    exact this
theorem mGo_drop {M : List Mb} {i : Nat} {x : Mb} (hx : M[i]? = some x) : mGo ((M.take i).map (·.d)) (M.drop i) = (mStep ((M.take i).map (·.d)) x && mGo ((M.take (i + 1)).map (·.d)) (M.drop (i + 1))) := by
  obtain ⟨hi, e⟩ := List.getElem?_eq_some_iff.1 hx
  rw [List.drop_eq_getElem_cons hi, e, mGo, List.take_add_one, hx, List.map_append]
  rfl
set_option maxRecDepth 100000 in
set_option maxHeartbeats 8000000 in
/-- May the members be? -/
theorem rmembers_any (am : Option Addr) (nm cm : Nat) (M : List Mb) (w : World) (hM : Rd 19 Mb.l w am nm M) (hn : nm ≤ 4096) :
    Calls Try.prog 47 #[.slice am nm cm] w fun e w' => e = .returned (.bool (mOk M)) ∧ Below w.heap.size w w' := by
  have HM := Lib.hid hM
  have HL := Lib.hid hM.1
  have HK0 := Lib.hid (show mOk M = (decide (nm ≤ 32) && mGo [] M) by unfold mOk; rw [hM.1])
  clear hM
  go_enter Try.func47, Try.ntmps47
  go_wp2_with fail
  go_loopw [3, 4] (fun s3 _ wr => ∃ j : Nat, s3 = .int .i64 (j : Nat) ∧ j ≤ nm ∧ mGo [] M = mGo ((M.take j).map (·.d)) (M.drop j) ∧ Below w.heap.size w wr) (fun s3 _ _ => nm - (intOf s3).toNat)
  case atStart => exact ⟨0, rfl, Nat.zero_le _, rfl, Below.refl _ _⟩
  case round =>
    obtain ⟨j, rfl, hj, hk, hb⟩ := hrel
    have HK := Lib.hid hk
    have HB := Lib.hid hb
    clear hk hb
    by_cases hlt : j < nm
    · have hltz : (j : Int) < (nm : Int) := by omega
      obtain ⟨x, hx⟩ : ∃ x, M[j]? = some x := ⟨_, List.getElem?_eq_getElem (by rw [HL.out]; exact hlt)⟩
      have HX := Lib.hid hx
      have HG := Lib.hid (show mGo [] M = _ from HK.out.trans (mGo_drop hx))
      obtain ⟨b, o, rfl, hbl, ⟨ha, hao⟩, hcw, ha2, hao2⟩ := (HM.out.below HB.out).adrw hx
      clear hx
      by_cases hv : vld x.d.a = true
      case neg =>
        have hv : vld x.d.a = false := by simpa using hv
        have HF := Lib.hid (show mOk M = false by rw [HK0.out, HG.out]; unfold mStep; rw [hv]; simp)
        go_wp2_with fail
        refine (refValid_below _ _).mono ?_
        rintro e w2 ⟨rfl, hbv⟩
        replace HB := Lib.hid (step_below HB.out hbv)
        replace hcw := (hbv.cell (p := ⟨b, o + j * 19 + 18, none⟩) hbl).trans hcw
        replace hbl := Nat.lt_of_lt_of_le hbl hbv.size
        clear hbv
        rw [hv]
        go_wp2_with fail
        go_ret
        exact ⟨by rw [HF.out]; rfl, HB.out⟩
      have HV := Lib.hid hv
      clear hv
      by_cases hw1 : x.w < 1
      · have HF := Lib.hid (show mOk M = false by rw [HK0.out, HG.out]; unfold mStep; rw [decide_eq_false (show ¬ 1 ≤ x.w by omega)]; simp)
        have hwd : decide (x.w < 1) = true := by simpa using hw1
        clear hw1
        go_wp2_with fail
        refine (refValid_below _ _).mono ?_
        rintro e w2 ⟨rfl, hbv⟩
        replace HB := Lib.hid (step_below HB.out hbv)
        replace hcw := (hbv.cell (p := ⟨b, o + j * 19 + 18, none⟩) hbl).trans hcw
        replace hbl := Nat.lt_of_lt_of_le hbl hbv.size
        clear hbv
        rw [HV.out]
        go_wp2_with fail
        go_ret
        exact ⟨by rw [HF.out]; rfl, HB.out⟩
      have hwd : decide (x.w < 1) = false := by simpa using hw1
      by_cases hw2 : 16 < x.w
      · have HF := Lib.hid (show mOk M = false by rw [HK0.out, HG.out]; unfold mStep; rw [decide_eq_false (show ¬ x.w ≤ 16 by omega)]; simp)
        have hwd2 : decide (16 < x.w) = true := by simpa using hw2
        clear hw1 hw2
        go_wp2_with fail
        refine (refValid_below _ _).mono ?_
        rintro e w2 ⟨rfl, hbv⟩
        replace HB := Lib.hid (step_below HB.out hbv)
        replace hcw := (hbv.cell (p := ⟨b, o + j * 19 + 18, none⟩) hbl).trans hcw
        replace hbl := Nat.lt_of_lt_of_le hbl hbv.size
        clear hbv
        rw [HV.out]
        go_wp2_with fail
        go_ret
        exact ⟨by rw [HF.out]; rfl, HB.out⟩
      have hwd2 : decide (16 < x.w) = false := by simpa using hw2
      have HW := Lib.hid (show 1 ≤ x.w ∧ x.w ≤ 16 by omega)
      clear hw1 hw2
      go_wp2_with fail
      refine (refValid_below _ _).mono ?_
      rintro e w2 ⟨rfl, hbv⟩
      replace HB := Lib.hid (step_below HB.out hbv)
      replace hcw := (hbv.cell (p := ⟨b, o + j * 19 + 18, none⟩) hbl).trans hcw
      replace hbl := Nat.lt_of_lt_of_le hbl hbv.size
      clear hbv
      rw [HV.out]
      go_wp2_with fail
      clear hwd hwd2 hcw ha hao
      go_loopw [4] (fun s4 wx => ∃ k : Nat, s4 = .int .i64 (k : Nat) ∧ k ≤ j ∧ (∀ z ∈ M.take k, z.d ≠ x.d) ∧ Below w2.heap.size w2 wx) (fun s4 _ => j - (intOf s4).toNat)
      case atStart => exact ⟨0, rfl, Nat.zero_le _, by simp, Below.refl _ _⟩
      case round =>
        clear ha2 hao2
        obtain ⟨k, rfl, hkj, hz, hb2⟩ := hrel
        have HZ := Lib.hid hz
        have HB2 := Lib.hid (step_below HB.out hb2)
        have HBI := Lib.hid hb2
        have hbl2 : b < wr.heap.size := Nat.lt_of_lt_of_le hbl hb2.size
        clear hz hb2
        by_cases hkl : k < j
        · have hkz : (k : Int) < (j : Int) := by omega
          have hkm : (k : Int) < (nm : Int) := by omega
          obtain ⟨y, hy⟩ : ∃ y, M[k]? = some y := ⟨_, List.getElem?_eq_getElem (by rw [HL.out]; omega)⟩
          have HY := Lib.hid hy
          obtain ⟨b1, o1, hab1, _, h1a, h1o⟩ := (HM.out.below HB2.out).dip hy
          obtain ⟨b2, o2, hab2, _, h2a, h2o⟩ := (HM.out.below HB2.out).dip HX.out
          simp only [Option.some.injEq, Addr.mk.injEq, and_true] at hab1 hab2
          obtain ⟨rfl, rfl⟩ := hab1
          obtain ⟨rfl, rfl⟩ := hab2
          clear hy
          by_cases hyx : y.d = x.d
          · have hdd : decide (y.d = x.d) = true := by simpa using hyx
            have HF := Lib.hid (show mOk M = false by
              rw [HK0.out, HG.out]
              unfold mStep
              rw [decide_eq_true (show x.d ∈ (M.take j).map (·.d) from by
                rw [← hyx]
                exact List.mem_map.2 ⟨y, List.mem_take_iff_getElem.2 ⟨k, by have := HL.out; omega, (List.getElem?_eq_some_iff.1 HY.out).2⟩, rfl⟩)]
              simp)
            clear hyx
            go_wp2_with fail
            refine region_sq (fun _ => False) [(0, true), (1, true), (2, true), (3, true), (4, true), (5, true), (6, true), (7, true), (8, true), (9, true), (10, true)] (by kernel_rfl) (by kernel_rfl) (fun _ _ d _ _ h => by cases d <;> exact h) ?_
            repeat (first
              | (refine sq_yes rfl (by rfl) (fun w' hM => by ((try replace hM := hM.of_drew); obtain ⟨hR1, hR2, hR3⟩ := hM.rules; have hA := hM.agg; obtain ⟨hA1, hA2⟩ := hA; clear hM; go_simp; with_reducible rfl)) ?_; simp only [Act.put, List.setIfInBounds_toArray, List.set_cons_zero, List.set_cons_succ])
              | (refine sq_no rfl (by rfl) ?_; simp only [Act.put, List.setIfInBounds_toArray, List.set_cons_zero, List.set_cons_succ]))
            refine sq_end ?_
            go_wp2_with fail
            go_ret
            exact ⟨by rw [HF.out]; rfl, HB2.out.drew⟩
          · have hdd : decide (y.d = x.d) = false := by simpa using hyx
            have HYX := Lib.hid hyx
            clear hyx
            go_wp2_with fail
            refine region_sq (fun _ => False) [(0, true), (1, true), (2, true), (3, true), (4, true), (5, true), (6, true), (7, true), (8, true), (9, true), (10, true)] (by kernel_rfl) (by kernel_rfl) (fun _ _ d _ _ h => by cases d <;> exact h) ?_
            repeat (first
              | (refine sq_yes rfl (by rfl) (fun w' hM => by ((try replace hM := hM.of_drew); obtain ⟨hR1, hR2, hR3⟩ := hM.rules; have hA := hM.agg; obtain ⟨hA1, hA2⟩ := hA; clear hM; go_simp; with_reducible rfl)) ?_; simp only [Act.put, List.setIfInBounds_toArray, List.set_cons_zero, List.set_cons_succ])
              | (refine sq_no rfl (by rfl) ?_; simp only [Act.put, List.setIfInBounds_toArray, List.set_cons_zero, List.set_cons_succ]))
            refine sq_end ?_
            go_wp2_with fail
            go_roundw
            case rel => exact ⟨k + 1, by go_num, by omega, fun z hz => by
              rw [List.take_add_one, HY.out] at hz
              rcases List.mem_append.1 hz with hz | hz
              · exact HZ.out z hz
              · simp only [Option.toList_some, List.mem_singleton] at hz
                rw [hz]; exact HYX.out, HBI.out.drew⟩
            case measure => simp [intOf] <;> omega
        · have hkz : ¬ (k : Int) < (j : Int) := by omega
          have HN := Lib.hid (show mGo [] M = mGo ((M.take (j + 1)).map (·.d)) (M.drop (j + 1)) by
            rw [HG.out]
            unfold mStep
            rw [HV.out, decide_eq_false (show ¬ x.d ∈ (M.take j).map (·.d) from fun hm => by
              obtain ⟨z, hz, hze⟩ := List.mem_map.1 hm
              rw [show j = k by omega] at hz
              exact HZ.out z hz hze), decide_eq_true HW.out.1, decide_eq_true HW.out.2]
            simp)
          clear hkl hkj
          go_wp2_with fail
          go_roundw
          case rel => exact ⟨j + 1, by go_num, by omega, HN.out, HB2.out⟩
          case measure => simp [intOf] <;> omega
    · have hltz : ¬ (j : Int) < (nm : Int) := by omega
      have HE := Lib.hid (show mOk M = decide (nm ≤ 32) by
        rw [HK0.out, HK.out, List.drop_of_length_le (by rw [HL.out]; omega), mGo, Bool.and_true])
      have hdz : decide ((nm : Int) ≤ 32) = decide (nm ≤ 32) := by rw [decide_eq_decide]; omega
      have HDZ := Lib.hid hdz
      clear hdz
      go_wp2_with fail
      go_ret
      exact ⟨by rw [HE.out, ← HDZ.out]; rfl, HB.out⟩
end Go.Proofs.Ytgjecemmejaieaa
