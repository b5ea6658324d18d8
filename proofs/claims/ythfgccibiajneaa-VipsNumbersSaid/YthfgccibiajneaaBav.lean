/-
  Texts in one, each behind those that it needs: PvAll, PvDips, PvVx.
-/
import Derived.Test.YthfgccibiajneaaBau
/-
  All, an iterator; law 19's all: the numbers of those that are, left off behind so many.
-/
namespace Go.Proofs.Ythfgccibiajneaa
open Go.RowKit Go.Shelf
attribute [local go_sem] Oper.semAt_some
/-- Those that are, of the first so many. -/
def inTo (E : List En) (i : Nat) : List (Nat × Vp) := (List.range i).filterMap fun n => (E[n]?).bind fun e => e.2.map fun _ => (n, e.1)
theorem inTo_yes {E : List En} {i p : Nat} {v : Vp} (h : E[i]? = some (v, some p)) : inTo E (i + 1) = inTo E i ++ [(i, v)] := by
  unfold inTo; rw [List.range_succ, List.filterMap_append]; simp [h]
theorem inTo_no {E : List En} {i : Nat} (h : hasE E (i : Int) = false) : inTo E (i + 1) = inTo E i := by
  unfold inTo; rw [List.range_succ, List.filterMap_append]
  cases he : E[i]? with
  | none => simp [he]
  | some e =>
    rw [hasE_at he] at h
    simp [he, Option.isSome_eq_false_iff.1 h |> Option.isNone_iff_eq_none.1]
theorem inTo_length (E : List En) (i : Nat) : (inTo E i).length ≤ i := by
  unfold inTo; exact Nat.le_trans (List.length_filterMap_le _ _) (by simp)
theorem inTo_prefix (E : List En) {k m : Nat} (h : k ≤ m) : inTo E k <+: inTo E m := by
  obtain ⟨d, rfl⟩ := Nat.exists_eq_add_of_le h
  induction d with
  | zero => exact List.prefix_refl _
  | succ d ih =>
    refine (ih (by omega)).trans ?_
    unfold inTo
    rw [show k + (d + 1) = (k + d) + 1 by omega, List.range_succ, List.filterMap_append]
    exact List.prefix_append _ _
def vlEnc (x : Nat × Vp) : Array Value := #[.int .i64 x.1, .agg (vpc x.2)]
theorem KpP.below {n₀ B1 : Nat} {A B : World} (hb : Below A.heap.size A B) (hn : n₀ ≤ A.heap.size) (h1 : B1 < A.heap.size) : KpP n₀ B1 A B := ⟨hb.mono hn, hb.block _ h1⟩
theorem KpP.lt1 {n₀ B1 : Nat} {A B : World} (h : KpP n₀ B1 A B) (h1 : B1 < A.heap.size) : B1 < B.heap.size := by
  have := h.2
  rw [Array.getElem?_eq_getElem h1] at this
  exact (Array.getElem?_eq_some_iff.1 this).1
set_option maxRecDepth 100000 in
set_option maxHeartbeats 4000000 in
theorem vall1_any {w0 : World} {b T m : Nat} {c : Cf} {E : List En} {M : List (Value × Value)} (n l' B1 : Nat) (hP : Vt w0 b T m c E M) (J Jx : List (Nat × Vp) → World → Prop) (W : World)
    (hW : Below w0.heap.size w0 W) (hJ : AbidesFrom W.heap.size J)
    (hY : ∀ pre x W1, J pre W1 → pre.length < 16 → YieldAt Fence.wide (n - 1) Try.prog l' (vlEnc x) W1 fun e W' =>
      (e = .returned (.bool true) ∧ J (pre ++ [x]) W' ∧ KpP w0.heap.size B1 W1 W') ∨ (e = .returned (.bool false) ∧ Jx (pre ++ [x]) W'))
    (hBs : At W B1 80 #[.pointer (some ⟨T, 0, none⟩)]) (h0 : J [] W) :
    CallsIn Fence.wide n Try.prog 120 #[.func (.yield l') #[] #[], .pointer (some ⟨B1, 0, none⟩)] W fun e W' => (∃ v, e = .returned v) ∧
      ((∃ ys, ys = inTo E 16 ∧ J ys W') ∨ (∃ pre, (∃ q, q ≤ 16 ∧ pre = inTo E q) ∧ Jx pre W')) := by
  have HP := Lib.hid hP
  have HS := Lib.hid hBs
  have HY := Lib.hid hY
  have HW := Lib.hid hW
  have HJ := Lib.hid hJ
  have HB1 := Lib.hid hBs.lt
  clear hP hBs hY hW hJ
  refine callsIn_of_wp Try.func120 rfl trivial ?_ rfl
  simp only [Try.ntmps120, List.size_toArray, List.length_cons, List.length_nil, Nat.reduceAdd, Nat.reduceSub, Array.replicate_succ, Array.replicate_zero, List.push_toArray, List.append_toArray, List.nil_append, List.cons_append]
  gi_wp2
  gi_loopw [3, 4, 5, 6] (fun _ _ _ i wr => ∃ s : Nat, s ≤ 16 ∧ i = .int .i64 s ∧ J (inTo E s) wr ∧ KpP w0.heap.size B1 W wr) (fun _ _ _ i wr => 16 - (intOf i).toNat)
  case atStart => exact ⟨0, Nat.zero_le _, rfl, h0, KpP.refl _ _ _⟩
  case round =>
    obtain ⟨s, hs, rfl, hj, hk⟩ := hrel
    have HJJ := Lib.hid hj
    have HKP := Lib.hid hk
    clear hj hk
    have hAs : At wr B1 80 #[.pointer (some ⟨T, 0, none⟩)] := HKP.out.2.trans HS.out
    have HPr := Lib.hid (HP.out.below (HW.out.trans HKP.out.1))
    have c1 := hAs.cell 0
    have l1 := hAs.lt
    simp only [List.getElem?_toArray, List.getElem?_cons_zero] at c1
    have HL1 := Lib.hid l1
    have HSZ := Lib.hid (show w0.heap.size ≤ wr.heap.size from (HW.out.trans HKP.out.1).size)
    clear hAs
    by_cases hlt : s < 16
    · have hltz : (s : Int) < 16 := by omega
      cases hb : hasE E (s : Int)
      · have HN := Lib.hid (inTo_no hb)
        have HBB := Lib.hid hb
        clear hb
        have hst := fun (w : World) (n : Nat) (Z : Array Value) (hn : n = w.heap.size) (hZ : Z.size = 19) => store_new (P := Try.prog) sizeVp w n Z (vpc vz) hn hZ (vpc_size _) (vp_one _)
        gi_wp2
        refine ⟨trivial, fun h => (by simp [Fence.wide] at h), (callsIn_wide.2 (vvip_no HPr.out (s : Int) HBB.out)).mono ?_⟩
        rintro e w1 ⟨rfl, hb⟩
        gi_wp2
        have HKP1 := Lib.hid (HKP.out.t (KpP.below (hb.trans ((Below.refl _ _).alloc hb.size (.cells (vpc vz) 86))) HSZ.out HL1.out))
        have HJ1 := Lib.hid (HJ.out _ _ (w1.alloc (.cells (vpc vz) 86)) none (HJ.out _ _ _ none HJJ.out (grown_of_below hb) (fun r e => by cases e)) (World.grownBy_alloc w1 _ none) (fun r e => by cases e))
        clear hb hst l1 c1
        refine ⟨fun _ h => (by cases h), ?_⟩
        gi_wp2
        go_roundw
        case rel => exact ⟨s + 1, by omega, by go_num, by rw [HN.out]; exact HJ1.out, HKP1.out⟩
        case measure => simp [intOf]; omega
      · obtain ⟨j, v, p, hjs, -, he⟩ := hasE_in HPr.out hb
        obtain rfl : s = j := by omega
        have HN := Lib.hid (inTo_yes he)
        have HE := Lib.hid he
        have hll : (inTo E s).length < 16 := Nat.lt_of_le_of_lt (inTo_length E s) (by omega)
        have hst := fun (w : World) (n : Nat) (Z : Array Value) (hn : n = w.heap.size) (hZ : Z.size = 19) => store_new (P := Try.prog) sizeVp w n Z (vpc v) hn hZ (vpc_size _) (vp_one _)
        clear hb hjs he
        gi_wp2
        refine ⟨trivial, fun h => (by simp [Fence.wide] at h), (callsIn_wide.2 (vvip_yes HPr.out s v p HE.out)).mono ?_⟩
        rintro e w1 ⟨rfl, hb⟩
        have HKP1 := Lib.hid (HKP.out.t (KpP.below (hb.trans ((Below.refl _ _).alloc hb.size (.cells (vpc v) 86))) HSZ.out HL1.out))
        have HJ1 := Lib.hid (HJ.out _ _ (w1.alloc (.cells (vpc v) 86)) none (HJ.out _ _ _ none HJJ.out (grown_of_below hb) (fun r e => by cases e)) (World.grownBy_alloc w1 _ none) (fun r e => by cases e))
        obtain ⟨fn, tmps, assign, body, hy, hR⟩ := HY.out _ (s, v) _ HJ1.out hll
        simp only [vlEnc] at hy
        have HR := Lib.hid hR
        clear hR hll l1 c1 hb
        have HNV := Lib.hid (at_new w1 86 (vpc v) _ rfl)
        gi_wp2_with (refine wpListIn_load_want rfl 86 _ rfl _ 19 Try.underlying86 rfl sizeVp w1.heap.size 0 86 (vpc v) rfl HNV.out (by rw [vpc_size]; decide) ?_)
        refine ⟨fun h => (by simp [Fence.wide] at h), HR.out.mono ?_⟩
        rintro e W3 (⟨rfl, hJ3, hk3⟩ | ⟨rfl, hJx3⟩)
        · have HJ3 := Lib.hid hJ3
          have HK3 := Lib.hid hk3
          clear hJ3 hk3
          gi_wp2
          go_roundw
          case rel => exact ⟨s + 1, by omega, by go_num, by rw [HN.out]; exact HJ3.out, HKP1.out.t HK3.out⟩
          case measure => simp [intOf]; omega
        · have HJ3 := Lib.hid hJx3
          clear hJx3
          gi_wp2
          refine bodyPost_ret (results_none rfl _ _ _) rfl ?_
          exact ⟨⟨_, rfl⟩, .inr ⟨_, ⟨s + 1, by omega, HN.out.symm⟩, HJ3.out⟩⟩
    · obtain rfl : s = 16 := by omega
      gi_wp2
      go_end0
      exact ⟨⟨_, rfl⟩, .inl ⟨_, rfl, HJJ.out⟩⟩
theorem vallv_any (p : Option Addr) (w : World) :
    Calls Try.prog 107 #[.pointer p] w fun e w' => e = .returned (.func (.func 120) #[] #[.pointer (some ⟨w.heap.size, 0, none⟩)]) ∧ w' = w.alloc (.cells #[.pointer p] 80) := by
  go_enter Try.func107, Try.ntmps107
  go_wp2_with fail
  go_ret
  exact ⟨rfl, rfl⟩
theorem vall_stops {w0 : World} {b T m : Nat} {c : Cf} {E : List En} {M : List (Value × Value)} (n B1 : Nat) (hP : Vt w0 b T m c E M) (w : World) (hW : Below w0.heap.size w0 w) (hB1 : B1 < w.heap.size)
    (hBs : At w B1 80 #[.pointer (some ⟨T, 0, none⟩)]) :
    SeqStopsK Fence.wide n Try.prog 120 #[.pointer (some ⟨B1, 0, none⟩)] vlEnc (KpP w0.heap.size B1) (fun ys => ys = inTo E 16) (fun pre => ∃ q, q ≤ 16 ∧ pre = inTo E q) 16 w := fun l' J Jx W hWW hJ _ hY h0 =>
  vall1_any n l' B1 hP J Jx W (hW.trans (hWW.mono hW.size)) hJ hY (hBs.below hWW hB1) h0
def numV (x : Nat × Vp) : Int := (x.1 : Int)
theorem vl_snoc (pre : List (Nat × Vp)) (x : Nat × Vp) : i64s ((pre ++ [x]).map numV) = i64s (pre.map numV) ++ [.int .i64 (x.1 : Nat)] := by simp [i64s, numV]
/-- What is left off behind so many; below 0: never. -/
def cutA {α : Type} (most : Int) (xs : List α) : List α := if most < 0 then xs else xs.take most.toNat
set_option maxRecDepth 100000 in
set_option maxHeartbeats 4000000 in
theorem valls_any {w : World} {b T m : Nat} {c : Cf} {E : List En} {M : List (Value × Value)} (h : Vt w b T m c E M) (most : Int) :
    Calls Try.prog 74 #[.pointer (some ⟨T, 0, none⟩), .int .i64 most] w fun e w' => ∃ v, e = .returned v ∧ OI w' w.heap.size v ((cutA most (inTo E 16)).map numV) ∧ Below w.heap.size w w' := by
  obtain ⟨i0, hi, hz0, hz1, hz2⟩ := info_parts infoInt
  have heq := fun (w : World) (fn : Fn) (fi ca : Array Value) => run_eql_func_nilP (P := Try.prog) w 180 fn fi ca Try.underlying180
  refine (callsIn_wide (n := 5)).1 ?_
  refine callsIn_of_wp_marks Try.func74 rfl trivial ?_ rfl
  simp only [Try.ntmps74, List.size_toArray, List.length_cons, List.length_nil, Nat.reduceAdd, Nat.reduceSub, Array.replicate_succ, Array.replicate_zero, List.push_toArray, List.append_toArray, List.nil_append, List.cons_append]
  gi_wp2_with (refine ⟨trivial, ?_⟩; gi_at_call 107; refine (callsIn_wide.2 (vallv_any _ _)).mono ?_; rintro e w' ⟨rfl, rfl⟩)
  obtain ⟨W0, hW0⟩ : ∃ W0, ((w.alloc (.cells #[.int .i64 most] 3)).alloc (.cells #[.slice none 0 0] 28)).alloc (.cells #[.pointer (some ⟨T, 0, none⟩)] 80) = W0 := ⟨_, rfl⟩
  have bM := ((Boxed.new w 3 (.int .i64 most)).alloc (.cells #[.slice none 0 0] 28)).alloc (.cells #[.pointer (some ⟨T, 0, none⟩)] 80)
  have bL := (Boxed.new (w.alloc (.cells #[.int .i64 most] 3)) 28 (.slice none 0 0)).alloc (.cells #[.pointer (some ⟨T, 0, none⟩)] 80)
  have bS := At.new ((w.alloc (.cells #[.int .i64 most] 3)).alloc (.cells #[.slice none 0 0] 28)) 80 #[.pointer (some ⟨T, 0, none⟩)]
  simp only [World.size_alloc] at bL bS
  have hB0 : Below w.heap.size w (((w.alloc (.cells #[.int .i64 most] 3)).alloc (.cells #[.slice none 0 0] 28)).alloc (.cells #[.pointer (some ⟨T, 0, none⟩)] 80)) := (((Below.refl _ w).alloc (Nat.le_refl _) _).alloc (by simp) _).alloc (by simp; omega) _
  have hsz0 : (((w.alloc (.cells #[.int .i64 most] 3)).alloc (.cells #[.slice none 0 0] 28)).alloc (.cells #[.pointer (some ⟨T, 0, none⟩)] 80)).heap.size = w.heap.size + 3 := by simp
  rw [hW0] at bM bL bS hB0 hsz0 ⊢
  clear hW0
  have hstops := vall_stops (5 - 1) (w.heap.size + 1 + 1) h W0 hB0 (by omega) bS
  generalize hn0 : w.heap.size = n0 at *
  refine wpIn_rangeFunc_ownH rfl (by omega) (gf := 120) (lb := #[.pointer (some ⟨n0 + 1 + 1, 0, none⟩)]) rfl trivial (enters_of Try.func120 (by kernel_rfl) rfl)
    hstops KpP.t (KpP.b (by omega) (by omega)) (Below.refl _ _) (fun _ => rfl)
    (fun pre W => ((((∃ v, Boxed W (n0 + 1) 28 v ∧ W.ownsRow (n0 + 3) 3 1 v pre.length (i64s (pre.map numV)) ∧ True) ∧ Boxed W n0 3 (.int .i64 most)) ∧ At W (n0 + 1 + 1) 80 #[.pointer (some ⟨T, 0, none⟩)]) ∧ (most < 0 ∨ (pre.length : Int) ≤ most)) ∧ Below n0 w W)
    (fun c' pre W => ((∃ v, Boxed W (n0 + 1) 28 v ∧ W.ownsRow (n0 + 3) 3 1 v (pre.length - 1) (i64s (pre.dropLast.map numV)) ∧ True) ∧ (c' = .exit 0 ∧ 1 ≤ pre.length ∧ (pre.length : Int) - 1 = most)) ∧ Below n0 w W)
    (OwnFrom.and (OwnFrom.and (OwnFrom.and (OwnFrom.and (Own.from (holdsRow_own (n0 + 3) (n0 + 1) 28 3 1 (fun (pre : List (Nat × Vp)) => pre.length) (fun (pre : List (Nat × Vp)) => i64s (pre.map numV)) (fun _ _ => True)) _) (Own.from (boxed_own _ _ _) _)) (Own.from (at_ownP _ _ _) _)) (ownFrom_pure _ _)) (ownFrom_below (by omega) (by omega)))
    (fun c' => OwnFrom.and (OwnFrom.and (Own.from (holdsRow_own (n0 + 3) (n0 + 1) 28 3 1 (fun (pre : List (Nat × Vp)) => pre.length - 1) (fun (pre : List (Nat × Vp)) => i64s (pre.dropLast.map numV)) (fun _ _ => True)) _) (ownFrom_pure _ _)) (ownFrom_below (by omega) (by omega)))
    ⟨⟨⟨⟨⟨_, bL, World.ownsRow_nil _ _ _ _, trivial⟩, bM⟩, bS⟩, by simp; omega⟩, hB0⟩
    (fun x a' W => a' = { tmps := #[.pointer (some ⟨T, 0, none⟩), .int .i64 most, undef, .pointer (some ⟨n0, 0, none⟩), .slice none 0 0, .pointer (some ⟨n0 + 1, 0, none⟩), .func (.func 120) #[] #[.pointer (some ⟨n0 + 1 + 1, 0, none⟩)], .int .i64 x.1, .pointer (some ⟨T, 0, none⟩), .func (.func 120) #[] #[.pointer (some ⟨n0 + 1 + 1, 0, none⟩)], .func (.func 120) #[] #[.pointer (some ⟨n0 + 1 + 1, 0, none⟩)], .bool false, .func (.func 120) #[] #[.pointer (some ⟨n0 + 1 + 1, 0, none⟩)], .int .i64 x.1, .agg (vpc x.2), undef, undef, undef, undef, undef, undef, undef, undef, undef], defers := [] })
    (fun x a' _ X Y row hs hg hr => hs)
    ?assign ?body ?done ?stop
  case assign =>
    rintro l' pre x W K ⟨⟨⟨⟨⟨v, bv, hrow, _⟩, bM1⟩, bS1⟩, hp⟩, hB1⟩ hK
    simp only [vlEnc]
    gi_wp2
    exact hK _ _ (KeepsFrom.refl _ _) (KpP.refl _ _ _) ⟨⟨⟨⟨⟨v, bv, hrow, trivial⟩, bM1⟩, bS1⟩, hp⟩, hB1⟩ rfl
  case body =>
    rintro l' pre x a' W hl' ⟨r, hr⟩ ⟨⟨⟨⟨⟨v, bv, hrow, _⟩, bM1⟩, bS1⟩, hp⟩, hB1⟩ rfl hlt
    have cM := bM1.cell
    have cL := bv.cell
    have hsW : n0 + 1 + 1 < W.heap.size := bS1.lt
    obtain ⟨ad, cap, hv⟩ : ∃ ad cap, v = .slice ad pre.length cap := by
      rcases hrow.2 with ⟨h1, h2⟩ | ⟨g, cap, cur, h1, _⟩
      · exact ⟨none, 0, by rw [h1, h2]⟩
      · exact ⟨_, _, h1⟩
    subst hv
    by_cases hm : (pre.length : Int) = most
    · gi_wp2
      exact ⟨KeepsFrom.refl _ _, ⟨⟨_, bv, by simpa using hrow, trivial⟩, rfl, by simp, by simp; exact hm⟩, hB1⟩
    · have hml : 65537 ≤ maxLen := by decide
      have hpl : pre.length < 16 := by omega
      have hn0W : n0 ≤ W.heap.size := by omega
      have hsz3 : n0 + 3 ≤ W.heap.size := by omega
      gi_wp2_with (gi_at_builtin; refine wpListIn_append_own _ rfl _ _ 28 rfl (n0 + 3) 3 i0 (.int .i64 0) 1 8 Try.underlying28 hi hz0 hz1 hz2 rfl (by decide) _ _ _ rfl (hrow.alloc _) ⟨W.heap.size, 0, none⟩ 1 1 [.int .i64 (x.1 : Nat)] rfl rfl (cells_newP _ _ _) (by simp [Value.oneCell']) (by omega) (by omega) (by simp; omega) ?_; intro v' w1 hown' hgrow _; obtain ⟨g', cap', rfl⟩ := ownsRow_succ hown'; obtain ⟨hv1, hv2, hr2, hk2, hb2⟩ := appended2P bv (by decide) hrow hn0W (by omega) (by omega) hown' hgrow; have hc1 := hv1.cell; have hf1 := hv1.frozen)
      have bM2 := ((bM1.alloc _).kept hgrow (not_row2P bM1 hrow (by omega))).other (B' := n0 + 1) (by omega) (.slice (some ⟨g', 0, none⟩) (pre.length + 1) cap')
      have bS2 := at_otherP ((bS1.alloc _).keptP hgrow (bS1.not_rowP (by decide) hrow)) (B' := n0 + 1) (by omega) (.slice (some ⟨g', 0, none⟩) (pre.length + 1) cap')
      exact ⟨hk2.from _, ⟨hb2, Eq.trans (show _ = _ from bS2) (Eq.symm (show _ = _ from bS1))⟩, ⟨⟨⟨⟨_, hv2, by rw [vl_snoc, List.length_append]; exact hr2, trivial⟩, bM2⟩, bS2⟩, by simp only [List.length_append, List.length_cons, List.length_nil]; omega⟩, hB1.trans hb2⟩
  case done =>
    rintro D ys W hD rfl ⟨⟨⟨⟨⟨v, bv, hrow, _⟩, bM1⟩, bS1⟩, hp⟩, hB1⟩ hK
    have hc := bv.cell
    have hcut : cutA most (inTo E 16) = inTo E 16 := by
      unfold cutA
      split
      · rfl
      · exact List.take_of_length_le (by omega)
    gi_wp2
    subst hn0
    refine ⟨by simp, .inl ⟨_, _, rfl, run_takeDeferred hK, ?_⟩⟩
    exact ⟨_, results_tmp rfl _ _ _, v, rfl, by rw [hcut]; exact OI.base (show OI _ _ _ _ from (by unfold OI; rw [List.length_map]; exact ownsRow_putObj hrow _ hK rfl)) (by omega), hB1.trans (belowK_b (w := w) (Nat.le_refl _) W D _ _ (by omega) hK rfl rfl)⟩
  case stop =>
    rintro D c' pre W hD ⟨q, hq, rfl⟩ ⟨⟨⟨v, bv, hrow, _⟩, rfl, hp1, hp2⟩, hB1⟩ hK
    have hc := bv.cell
    have hcut : cutA most (inTo E 16) = (inTo E q).dropLast := by
      obtain ⟨t, ht⟩ := inTo_prefix E hq
      unfold cutA
      rw [if_neg (by omega), ← ht, List.take_append_of_le_length (by omega), List.dropLast_eq_take]
      congr 1
      omega
    gi_wp2
    subst hn0
    refine ⟨by simp, .inl ⟨_, _, rfl, run_takeDeferred hK, ?_⟩⟩
    exact ⟨_, results_tmp rfl _ _ _, v, rfl, by rw [hcut]; exact OI.base (show OI _ _ _ _ from (by unfold OI; rw [List.length_map, List.length_dropLast]; exact ownsRow_putObj hrow _ hK rfl)) (by omega), hB1.trans (belowK_b (w := w) (Nat.le_refl _) W D _ _ (by omega) hK rfl rfl)⟩
end Go.Proofs.Ythfgccibiajneaa

/-
  alike.Dip, alike.Servers, of either kind.
-/
namespace Go.Proofs.Ythfgccibiajneaa
open Go.RowKit Go.Shelf
attribute [local go_sem ↓] exec_bldD exec_bldB exec_bldM
/-- The n-th server, of a kind. -/
def adq (v6 : Bool) (n : Nat) : Dp := ⟨⟨v6, [172, 16, 0, 1 + n % 200, 0, 0, 0, 0, 0, 0, 0, 0, 0, 0, 0, 0], rfl, by intro x hx; simp only [List.mem_cons, List.not_mem_nil, or_false] at hx; omega⟩, 8000 + n % 1000, by omega⟩
theorem adq_false (n : Nat) : adq false n = adp n := rfl
def adq1 (v6 : Bool) (n : Nat) : Dp := ⟨adr0 v6, 8000 + n % 1000, by omega⟩
theorem splice_adq (v6 : Bool) (n : Nat) : splice (dc (adq1 v6 n)) 1 (b16 n).toList = dc (adq v6 n) := by
  apply Array.ext_getElem?
  intro j
  rw [splice_get _ _ _ _ (by simp [b16_size, dc_size])]
  by_cases h : 1 ≤ j ∧ j < 1 + (b16 n).toList.length
  · rw [if_pos h]
    have : (b16 n).toList.length = 16 := by simp [b16_size]
    obtain ⟨i, rfl⟩ : ∃ i, j = 1 + i := ⟨j - 1, by omega⟩
    rw [show 1 + i - 1 = i by omega]
    have h2 : i = 0 ∨ i = 1 ∨ i = 2 ∨ i = 3 ∨ i = 4 ∨ i = 5 ∨ i = 6 ∨ i = 7 ∨ i = 8 ∨ i = 9 ∨ i = 10 ∨ i = 11 ∨ i = 12 ∨ i = 13 ∨ i = 14 ∨ i = 15 := by omega
    rcases h2 with rfl | rfl | rfl | rfl | rfl | rfl | rfl | rfl | rfl | rfl | rfl | rfl | rfl | rfl | rfl | rfl <;> rfl
  · rw [if_neg h]
    have : (b16 n).toList.length = 16 := by simp [b16_size]
    rcases Nat.lt_or_ge j 18 with h2 | h2
    · have : j = 0 ∨ j = 17 := by omega
      rcases this with rfl | rfl <;> rfl
    · rw [Array.getElem?_eq_none (by rw [dc_size]; omega), Array.getElem?_eq_none (by rw [dc_size]; omega)]
theorem adq1_set (v6 : Bool) (n : Nat) : (dc (adp1 n)).setIfInBounds 0 (.bool v6) = dc (adq1 v6 n) := by
  apply Array.ext_getElem?
  intro j
  rw [Array.getElem?_setIfInBounds]
  by_cases h : 0 = j
  · subst h
    rw [if_pos rfl, if_pos (by rw [dc_size]; omega)]; rfl
  · rw [if_neg h]
    rcases Nat.lt_or_ge j 18 with h2 | h2
    · have : j = 1 ∨ j = 2 ∨ j = 3 ∨ j = 4 ∨ j = 5 ∨ j = 6 ∨ j = 7 ∨ j = 8 ∨ j = 9 ∨ j = 10 ∨ j = 11 ∨ j = 12 ∨ j = 13 ∨ j = 14 ∨ j = 15 ∨ j = 16 ∨ j = 17 := by omega
      rcases this with rfl | rfl | rfl | rfl | rfl | rfl | rfl | rfl | rfl | rfl | rfl | rfl | rfl | rfl | rfl | rfl | rfl <;> rfl
    · rw [Array.getElem?_eq_none (by rw [dc_size]; omega), Array.getElem?_eq_none (by rw [dc_size]; omega)]
set_option maxRecDepth 100000 in
set_option maxHeartbeats 4000000 in
theorem adipv_any (v6 : Bool) (n : Nat) (_hn : n ≤ 100000) (w : World) : Calls Try.prog 53 #[.int .i64 (n : Int), .bool v6] w fun e w' => e = .returned (.agg (dc (adq v6 n))) ∧ Below w.heap.size w w' := by
  have hb1 := build_d1 (8000 + (n : Int) % 1000) n (by omega)
  have hb2 := build_b16 (1 + (n : Int) % 200) n (by omega)
  have hm1 : IntKind.u16.wrap (8000 + (n : Int) % 1000) = 8000 + (n : Int) % 1000 := by rw [IntKind.wrap_u16]; omega
  have hm2 : IntKind.u8.wrap (1 + (n : Int) % 200) = 1 + (n : Int) % 200 := by rw [IntKind.wrap_u8]; omega
  have hst1 := fun (w : World) (m : Nat) (Z : Array Value) (hn : m = w.heap.size) (hZ : Z.size = 18) => store_new (P := Try.prog) sizeDp w m Z (dc (adp1 n)) hn hZ (dc_size _) (dc_one _)
  have hs2 := fun (w : World) (m off : Nat) (Z : Array Value) (hn : m = w.heap.size) (hZ : off + 16 ≤ Z.size) => store_mid (P := Try.prog) w m off 92 Z (b16 n) hn (by rw [b16_size]; exact hZ) (b16_one _)
  have hs4 := fun (w : World) (m : Nat) (Z : Array Value) (ob : Obj) (hn : m = w.heap.size) (hZ : Z.size = 18) => store_second (P := Try.prog) w m 92 Z (dc (adq v6 n)) ob hn (by rw [dc_size, hZ]) (dc_one _)
  have hag : ∀ (w : World) (m : Nat), m = w.heap.size → aggAt (w.alloc (.cells (dc (adq v6 n)) 92)) m 0 18 = dc (adq v6 n) ∧ aggOk (w.alloc (.cells (dc (adq v6 n)) 92)) m 0 18 = true := fun w m h => by
    have := (at_new w 92 (dc (adq v6 n)) m h).agg 0 18 (by rw [dc_size]; omega)
    rw [show 0 + 18 = 18 from rfl, dc_all] at this
    exact this
  have hag1 := fun w m h => (hag w m h).1
  have hag2 := fun w m h => (hag w m h).2
  clear hag
  have hz1 : (b16 n).size = 16 := b16_size _
  have hz2 := splice_adq v6 n
  have hz3 := adq1_set v6 n
  go_enter Try.func53, Try.ntmps53
  go_wp2_with fail
  refine (round_big (n : Int) 1000 (by omega) (by omega) _).mono ?_
  rintro e w1 ⟨rfl, rfl⟩
  go_wp2_with fail
  refine (round_big (n : Int) 200 (by omega) (by omega) _).mono ?_
  rintro e w1 ⟨rfl, rfl⟩
  go_wp2_with fail
  exact bodyPost_ret (results_cell_row rfl _ _ w.heap.size 92 (dc (adq v6 n)) (0, 0) _ rfl ((at_new w 92 _ _ rfl).alloc _) Try.underlying92 rfl (by rw [dc_size]; exact sizeDp)) rfl ⟨rfl, ((Below.refl _ w).alloc (Nat.le_refl _) _).alloc (by simp) _⟩
/-- Members, each of a weight. -/
def srq (v6 : Bool) (L : List Int) : List Mb := (List.range L.length).map fun i => ⟨adq v6 i, 1 + L.getD i 0 % 16⟩
theorem srq_false (L : List Int) : srq false L = srv L := rfl
theorem srq_len (v6 : Bool) (L : List Int) : (srq v6 L).length = L.length := by simp [srq]
theorem srq_get (v6 : Bool) {L : List Int} {i : Nat} {x : Int} (h : L[i]? = some x) : (srq v6 L)[i]? = some ⟨adq v6 i, 1 + x % 16⟩ := by
  have hi : i < L.length := (List.getElem?_eq_some_iff.1 h).1
  unfold srq
  rw [List.getElem?_map, List.getElem?_range hi, Option.map_some, getD_of h]
set_option maxRecDepth 100000 in
set_option maxHeartbeats 4000000 in
theorem serversv_any (v6 : Bool) (a : Option Addr) (n c : Nat) (L : List Int) (w : World) (h : Rd 1 ei w a n L) (hn : n ≤ 32) :
    Calls Try.prog 75 #[.slice a n c, .bool v6] w fun e w' => ∃ v, e = .returned v ∧ Sl 19 Mb.l 95 w' w.heap.size v (srq v6 L) ∧ Below w.heap.size w w' := by
  have HL := Lib.hid h
  have HN := Lib.hid (show L.length = n from h.1)
  clear h
  go_enter Try.func75, Try.ntmps75
  go_wp2_with fail
  go_loopw [5, 6] (fun s5 s6 wx => ∃ j : Nat, s6 = .int .i64 (j : Nat) ∧ j ≤ n ∧ Sl 19 Mb.l 95 wx w.heap.size s5 ((srq v6 L).take j) ∧ Below w.heap.size w wx) (fun _ s6 _ => n - (intOf s6).toNat)
  case atStart => exact ⟨0, rfl, Nat.zero_le _, Sl.nil _ _ _ _ _, Below.refl _ _⟩
  case round =>
    obtain ⟨j, rfl, hj, hs, hb⟩ := hrel
    have HS := Lib.hid hs
    have HB := Lib.hid hb
    clear hs hb
    by_cases hlt : j < n
    · have hltz : (j : Int) < (n : Int) := by omega
      have hd : decide (j < n) = true := by simpa using hlt
      have hd2 : decide ((j : Int) < 32) = true := by simp; omega
      obtain ⟨x, hx⟩ : ∃ x, L[j]? = some x := ⟨_, List.getElem?_eq_getElem (by have := HN.out; omega)⟩
      have HX := Lib.hid hx
      obtain ⟨b, o, rfl, hbl, hc⟩ := HL.out.2 (by omega)
      have hcx := hc j x hx 0 (by omega)
      have hbw := hbl
      replace hbl : b < wr.heap.size := Nat.lt_of_lt_of_le hbl HB.out.size
      replace hcx := (HB.out.cell (p := ⟨b, o + j * 1 + 0, none⟩) hbw).trans hcx
      rw [Nat.mul_one, Nat.add_zero] at hcx
      simp only [List.getElem?_cons_zero] at hcx
      have hw16 : ¬ w.heap.size ≤ b := by omega
      clear hx hc hbw
      go_wp2_with fail
      clear hd hd2
      refine region_sq (fun i => w.heap.size ≤ i) [(0, true), (1, true), (2, true), (4, true), (5, true), (6, true), (7, true), (3, false), (8, false), (9, true), (10, true), (11, false), (12, false), (13, true)] (by kernel_rfl) (by kernel_rfl) (fun _ _ d _ _ h => by cases d <;> exact h) ?_
      repeat (first
        | (refine sq_yes rfl (by rfl) (fun w' hM => by ((try replace hM := hM.of_drew); obtain ⟨hR1, hR2, hR3⟩ := hM.rules; have hA := hM.agg; obtain ⟨hA1, hA2⟩ := hA; clear hM; go_simp; with_reducible rfl)) ?_; simp only [Act.put, List.setIfInBounds_toArray, List.set_cons_zero, List.set_cons_succ])
        | (refine sq_no rfl (by rfl) ?_; simp only [Act.put, List.setIfInBounds_toArray, List.set_cons_zero, List.set_cons_succ]))
      refine sq_do_yes rfl (by rfl) (fun K hK => ?_)
      go_wp2_with fail
      refine (adipv_any v6 j (by omega) _).mono ?_
      rintro e w2 ⟨rfl, hb2⟩
      have HB2 := Lib.hid (step_below HB.out.drew hb2)
      have HS2 := Lib.hid (HS.out.drew.below hb2)
      go_wp2_with fail
      refine ⟨Mod.of_below hb2, ?_⟩
      clear hb2
      repeat (first
        | (refine sq_yes rfl (by rfl) (fun w' hM => by ((try replace hM := hM.of_drew); obtain ⟨hR1, hR2, hR3⟩ := hM.rules; have hA := hM.agg; obtain ⟨hA1, hA2⟩ := hA; clear hM; go_simp; with_reducible rfl)) ?_; simp only [Act.put, List.setIfInBounds_toArray, List.set_cons_zero, List.set_cons_succ])
        | (refine sq_no rfl (by rfl) ?_; simp only [Act.put, List.setIfInBounds_toArray, List.set_cons_zero, List.set_cons_succ]))
      refine sq_do_yes rfl (by rfl) (fun K hK => ?_)
      go_wp2_with fail
      refine (round_big x 16 (by omega) (by omega) _).mono ?_
      rintro e w3 ⟨rfl, rfl⟩
      go_wp2_with fail
      refine ⟨Mod.refl _ _, ?_⟩
      have hm := Int.emod_nonneg x (show (16 : Int) ≠ 0 by omega)
      have hm2 := Int.emod_lt_of_pos x (show (0 : Int) < 16 by omega)
      have hwr : IntKind.i64.wrap (1 + x % 16) = 1 + x % 16 := by rw [IntKind.wrap_i64]; omega
      have hbm := build_mc (adq v6 j) (1 + x % 16)
      repeat (first
        | (refine sq_yes rfl (by rfl) (fun w' hM => by ((try replace hM := hM.of_drew); obtain ⟨hR1, hR2, hR3⟩ := hM.rules; have hA := hM.agg; obtain ⟨hA1, hA2⟩ := hA; clear hM; go_simp; with_reducible rfl)) ?_; simp only [Act.put, List.setIfInBounds_toArray, List.set_cons_zero, List.set_cons_succ])
        | (refine sq_no rfl (by rfl) ?_; simp only [Act.put, List.setIfInBounds_toArray, List.set_cons_zero, List.set_cons_succ]))
      clear hbm hwr
      refine sq_do_yes rfl (by rfl) (fun K hK => ?_)
      go_wp2_with fail
      rw [mc_fold _ _ rfl]
      refine ⟨(Mod.refl _ _).alloc _, ?_⟩
      obtain ⟨bx, hbx⟩ : ∃ bx, bx = w3.heap.size := ⟨_, rfl⟩
      rw [← hbx]
      have hR := Rd.one (k := 19) (enc := Mb.l) (x := ⟨adq v6 j, 1 + x % 16⟩) (at_new w3 95 (mc ⟨adq v6 j, 1 + x % 16⟩) bx hbx) (by simp [mc])
      have HR := Lib.hid hR
      replace HB2 := Lib.hid (HB2.out.alloc HB2.out.size (.cells (mc ⟨adq v6 j, 1 + x % 16⟩) 95))
      replace HS2 := Lib.hid (HS2.out.alloc (.cells (mc ⟨adq v6 j, 1 + x % 16⟩) 95))
      clear hR hbx hm hm2
      generalize w3.alloc (.cells (mc ⟨adq v6 j, 1 + x % 16⟩) 95) = W4 at *
      have hl32 : ((srq v6 L).take j).length ≤ 32 := by rw [List.length_take]; omega
      refine sq_do_yes rfl (by rfl) (fun K hK => ?_)
      refine wp_sl_app (B := w.heap.size) Mb.len ml_one slMb infoMb3 (mc_size _) (by decide) HS2.out HR.out (by unfold maxLen; omega) (by omega) HB2.out.size rfl rfl rfl ?_
      intro v' W5 hs5 hm5 _
      have hge := fun g (hg : u5.ownBlock = some g) => (HS2.out.ge hg).1
      have HS5 := Lib.hid hs5
      have HB5 := Lib.hid (HB2.out.trans (mod_below hm5 HB2.out.size hge))
      refine hK _ _ ⟨hm5.mono (fun g _ hg => hge g hg), ?_⟩
      clear hs5 hm5 hge hcx hbl hw16
      simp only [Act.put, List.setIfInBounds_toArray, List.set_cons_zero, List.set_cons_succ]
      repeat (first
        | (refine sq_yes rfl (by rfl) (fun w' hM => by ((try replace hM := hM.of_drew); obtain ⟨hR1, hR2, hR3⟩ := hM.rules; have hA := hM.agg; obtain ⟨hA1, hA2⟩ := hA; clear hM; go_simp; with_reducible rfl)) ?_; simp only [Act.put, List.setIfInBounds_toArray, List.set_cons_zero, List.set_cons_succ])
        | (refine sq_no rfl (by rfl) ?_; simp only [Act.put, List.setIfInBounds_toArray, List.set_cons_zero, List.set_cons_succ]))
      refine sq_end ?_
      go_wp2_with fail
      go_roundw
      case rel =>
        refine ⟨j + 1, by simp, by omega, ?_, HB5.out⟩
        rw [List.take_add_one, srq_get v6 HX.out]
        exact HS5.out
      case measure => simp [intOf] <;> omega
    · have hltz : ¬ (j : Int) < (n : Int) := by omega
      have hd : decide (j < n) = false := by simpa using hlt
      have HT := Lib.hid (show (srq v6 L).take j = srq v6 L from List.take_of_length_le (by rw [srq_len, HN.out]; omega))
      go_wp2_with fail
      go_ret
      rw [← HT.out]
      exact ⟨_, rfl, HS.out, HB.out⟩
end Go.Proofs.Ythfgccibiajneaa

/-
  The table and all its pools.
-/
namespace Go.Proofs.Ythfgccibiajneaa
open Go.RowKit
structure Pd where
  p : Nat
  t : Nat
  vs : List V
  now : Nat
  lv : Value
  L : List Mb
  sv : Value
  S : List Dp
  B : Nat
abbrev Pd.P (d : Pd) (w : World) (c : Cf) : Prop := Po w d.B d.p d.t c d.vs d.now d.lv d.L d.sv d.S
abbrev Xs := List (Vp × Option Pd)
def xE (X : Xs) : List En := X.map fun x => (x.1, x.2.map Pd.p)
theorem xE_get (X : Xs) (i : Nat) : (xE X)[i]? = (X[i]?).map fun x => (x.1, x.2.map Pd.p) := by simp [xE]
theorem xE_set (X : Xs) (i : Nat) (x : Vp × Option Pd) : xE (X.set i x) = (xE X).set i (x.1, x.2.map Pd.p) := by simp [xE]
theorem xE_at {X : Xs} {i : Nat} {v : Vp} {d : Pd} (h : X[i]? = some (v, some d)) : (xE X)[i]? = some (v, some d.p) := by rw [xE_get, h]; rfl
theorem xE_no {X : Xs} {i : Nat} {v : Vp} (h : X[i]? = some (v, none)) : (xE X)[i]? = some (v, none) := by rw [xE_get, h]; rfl
theorem xE_of {X : Xs} {i : Nat} {v : Vp} {p : Nat} (h : (xE X)[i]? = some (v, some p)) : ∃ d, X[i]? = some (v, some d) ∧ d.p = p := by
  rw [xE_get] at h
  cases hx : X[i]? with
  | none => rw [hx] at h; cases h
  | some x =>
    obtain ⟨u, o⟩ := x
    rw [hx] at h
    simp only [Option.map_some, Option.some.injEq, Prod.mk.injEq] at h
    obtain ⟨rfl, h⟩ := h
    cases o with
    | none => cases h
    | some d => exact ⟨d, rfl, Option.some.inj h⟩
theorem xE_ofn {X : Xs} {i : Nat} {v : Vp} (h : (xE X)[i]? = some (v, none)) : X[i]? = some (v, none) := by
  rw [xE_get] at h
  cases hx : X[i]? with
  | none => rw [hx] at h; cases h
  | some x =>
    obtain ⟨u, o⟩ := x
    rw [hx] at h
    simp only [Option.map_some, Option.some.injEq, Prod.mk.injEq] at h
    obtain ⟨rfl, h⟩ := h
    cases o with
    | none => rfl
    | some d => cases h
theorem Sl.at {α : Type} {k : Nat} {enc : α → List Value} {e : TypeId} {w : World} {B : Nat} {v : Value} {L : List α} (h : Sl k enc e w B v L) {g : Nat} (hg : v.ownBlock = some g) : ∃ cur, At w g e cur := by
  rcases h.cases with ⟨h1, _⟩ | ⟨g', c, cur, h1, _, h3, _⟩
  · rw [h1] at hg; simp [Value.ownBlock] at hg
  · rw [h1] at hg
    simp only [Value.ownBlock, Option.some.injEq] at hg
    exact ⟨cur, hg ▸ h3⟩
/-- A pool stays where others turn. -/
theorem Po.away {w w' : World} {B p t : Nat} {c : Cf} {vs : List V} {now : Nat} {lv sv : Value} {L : List Mb} {S : List Dp} (h : Po w B p t c vs now lv L sv S) {M : Nat → Prop} (hm : Mod M w w') (hp : ¬ M p) (ht : ¬ M t)
    (hd : ∀ g cs, At w g 92 cs → ¬ M g) (hb : ∀ g cs, At w g 95 cs → ¬ M g) : Po w' B p t c vs now lv L sv S where
  obj := h.obj.mod hm hp
  arr := h.arr.mod hm fun g hg => by
    simp only [Value.ownBlock, Option.some.injEq] at hg
    exact hg ▸ ht
  bp := h.bp
  vers := fun v hv => (h.vers v hv).mod hm fun g hg => by
    obtain ⟨cs, hc⟩ := (h.vers v hv).at hg
    exact hd g cs hc
  last := h.last.mod hm fun g hg => by
    obtain ⟨cs, hc⟩ := h.last.at hg
    exact hb g cs hc
  sl := h.sl.mod hm fun g hg => by
    obtain ⟨cs, hc⟩ := h.sl.at hg
    exact hd g cs hc
  lt := h.lt
  big := h.big
structure Vx (w : World) (b T m : Nat) (c : Cf) (X : Xs) : Prop where
  tab : ∃ M, Vt w b T m c (xE X) M
  pool : ∀ (i : Nat) (v : Vp) (d : Pd), X[i]? = some (v, some d) → d.P w c
  lo : ∀ (i : Nat) (v : Vp) (d : Pd), X[i]? = some (v, some d) → b ≤ d.B
  apart : ∀ (i j : Nat) (v u : Vp) (d e : Pd), X[i]? = some (v, some d) → X[j]? = some (u, some e) → i ≠ j → d.p ≠ e.p ∧ d.t ≠ e.t
section
variable {w w' : World} {b T m : Nat} {c : Cf} {X : Xs}
theorem Vx.below (h : Vx w b T m c X) (hb : Below w.heap.size w w') : Vx w' b T m c X := by
  obtain ⟨M, hM⟩ := h.tab
  exact ⟨⟨M, hM.below hb⟩, fun i v d hd => (h.pool i v d hd).below hb, h.lo, h.apart⟩
theorem Vx.alloc (h : Vx w b T m c X) (o : Obj) : Vx (w.alloc o) b T m c X := h.below ((Below.refl _ w).alloc (Nat.le_refl _) o)
theorem Vx.drew (h : Vx w b T m c X) : Vx w.drew b T m c X := h.below (Below.refl _ w).drew
theorem Vx.len (h : Vx w b T m c X) : X.length = 16 := by
  obtain ⟨M, hM⟩ := h.tab
  have := hM.len
  simpa [xE] using this
theorem Vx.obj (h : Vx w b T m c X) : At w T 170 (tc c (xE X) m) := by
  obtain ⟨M, hM⟩ := h.tab
  exact hM.obj
theorem Vx.base (h : Vx w b T m c X) : b ≤ T ∧ b ≤ m := by
  obtain ⟨M, hM⟩ := h.tab
  exact ⟨hM.bT, hM.bm⟩
theorem Vx.tAt (h : Vx w b T m c X) {g : Nat} {t : TypeId} {cs : Array Value} (hg : At w g t cs) (ht : t ≠ 170) : g ≠ T ∧ g ≠ m := by
  obtain ⟨M, hM⟩ := h.tab
  exact ⟨At.ne hg hM.obj ht, hM.mp.notAt hg⟩
theorem Vx.bel {w0 : World} {B : Nat} (h : Vx w b T m c X) (hm : Mod (fun g => g = T ∨ g = m) w w') (hB : B ≤ b) (hb : Below B w0 w) : Below B w0 w' := by
  have h1 := h.base
  have h2 := h.obj.lt
  exact hb.trans (mod_below hm (by omega) (fun g hg => by rcases hg with rfl | rfl <;> omega))
/-- .. where a pool of it turns. -/
theorem Vx.belP {w0 : World} {B : Nat} (h : Vx w b T m c X) {i : Nat} {v : Vp} {d : Pd} (hi : X[i]? = some (v, some d)) (hm : Md d.p d.t w w') (hB : B ≤ b) (hb : Below B w0 w) : Below B w0 w' := by
  have h1 := h.lo i v d hi
  have hP := h.pool i v d hi
  have h2 := hP.bp
  have h3 := hP.bt
  have h4 := hP.obj.lt
  exact hb.trans (mod_below hm (by omega) (fun g hg => by rcases hg with rfl | rfl <;> omega))
theorem Vx.fresh (hV : Vt w b T m c E0 []) : Vx w b T m c (List.replicate 16 (vz, none)) := by
  refine ⟨⟨[], ?_⟩, ?_, ?_, ?_⟩
  · rw [show xE (List.replicate 16 (vz, none)) = E0 by simp [xE, E0, en0]]; exact hV
  · intro i v d h
    rw [List.getElem?_replicate] at h
    split at h <;> simp at h
  · intro i v d h
    rw [List.getElem?_replicate] at h
    split at h <;> simp at h
  · intro i j v u d e h
    rw [List.getElem?_replicate] at h
    split at h <;> simp at h
/-- An act at one pool. -/
theorem Vx.act (h : Vx w b T m c X) {i : Nat} {v : Vp} {d d' : Pd} (hi : X[i]? = some (v, some d)) (hp : d'.p = d.p) (ht : d'.t = d.t) (hB : d'.B = d.B) (hd : d'.P w' c) (hm : Md d.p d.t w w') : Vx w' b T m c (X.set i (v, some d')) := by
  obtain ⟨M, hM⟩ := h.tab
  have hil : i < X.length := (List.getElem?_eq_some_iff.1 hi).1
  have hP := h.pool i v d hi
  obtain ⟨cs, hc⟩ := hP.tAt
  have look : ∀ (j : Nat) (u : Vp) (e : Pd), (X.set i (v, some d'))[j]? = some (u, some e) → (j = i ∧ e = d') ∨ (j ≠ i ∧ X[j]? = some (u, some e)) := by
    intro j u e hj
    rw [List.getElem?_set] at hj
    split at hj
    · rename_i hij
      simp only [Option.some.injEq, Prod.mk.injEq] at hj
      exact .inl ⟨hij.symm, hj.2.symm⟩
    · rename_i hij
      exact .inr ⟨fun e => hij e.symm, hj⟩
  refine ⟨⟨M, ?_⟩, ?_, ?_, ?_⟩
  rotate_left 2
  · intro j u e hj
    rcases look j u e hj with ⟨rfl, rfl⟩ | ⟨hne, hj⟩
    · rw [hB]; exact h.lo _ _ _ hi
    · exact h.lo j u e hj
  rotate_left
  · have e1 : xE (X.set i (v, some d')) = xE X := by
      rw [xE_set]
      have h1 := xE_at hi
      simp only [Option.map_some, hp]
      exact WideElems.set_self _ _ _ h1
    rw [e1]
    refine hM.same (hm.block T hM.obj.lt ?_) (hm.block m hM.mp.lt ?_)
    · rintro (e | e)
      · exact At.ne hM.obj hP.obj (by decide) e
      · exact At.ne hM.obj hc (by decide) e
    · rintro (e | e)
      · exact hM.mp.notAt hP.obj e.symm
      · exact hM.mp.notAt hc e.symm
  · intro j u e hj
    rcases look j u e hj with ⟨rfl, rfl⟩ | ⟨hne, hj⟩
    · exact hd
    · have hQ := h.pool j u e hj
      obtain ⟨cs2, hc2⟩ := hQ.tAt
      obtain ⟨ha, hb⟩ := h.apart j i u v e d hj hi hne
      refine hQ.away hm ?_ ?_ ?_ ?_
      · rintro (e1 | e1)
        · exact ha e1
        · exact At.ne hQ.obj hc (by decide) e1
      · rintro (e1 | e1)
        · exact At.ne hc2 hP.obj (by decide) e1
        · exact hb e1
      · rintro g cs hg (e1 | e1)
        · exact At.ne hg hP.obj (by decide) e1
        · exact At.ne hg hc (by decide) e1
      · rintro g cs hg (e1 | e1)
        · exact At.ne hg hP.obj (by decide) e1
        · exact At.ne hg hc (by decide) e1
  · intro j k u z e f hj hk hne
    rcases look j u e hj with ⟨ej, ed⟩ | ⟨hn1, hj'⟩ <;> rcases look k z f hk with ⟨ek, ef⟩ | ⟨hn2, hk'⟩
    · exact absurd (ej.trans ek.symm) hne
    · rw [ed, hp, ht]; exact h.apart _ _ _ _ _ _ hi hk' (by omega)
    · rw [ef, hp, ht]; exact h.apart _ _ _ _ _ _ hj' hi (by omega)
    · exact h.apart _ _ _ _ _ _ hj' hk' hne
/-- What turns the table alone lets the pools be. -/
theorem Vx.pools (h : Vx w b T m c X) (hm : Mod (fun g => g = T ∨ g = m) w w') {i : Nat} {v : Vp} {d : Pd} (hi : X[i]? = some (v, some d)) : d.P w' c := by
  have hP := h.pool i v d hi
  obtain ⟨cs, hc⟩ := hP.tAt
  refine hP.away hm ?_ ?_ ?_ ?_
  · have := h.tAt hP.obj (by decide); rintro (e | e) <;> simp_all
  · have := h.tAt hc (by decide); rintro (e | e) <;> simp_all
  · intro g cs hg; have := h.tAt hg (by decide); rintro (e | e) <;> simp_all
  · intro g cs hg; have := h.tAt hg (by decide); rintro (e | e) <;> simp_all
/-- One is taken out. -/
theorem Vx.rem (h : Vx w b T m c X) {i : Nat} (hm : Mod (fun g => g = T ∨ g = m) w w') (hV : ∃ M', Vt w' b T m c ((xE X).set i en0) M') : Vx w' b T m c (X.set i (vz, none)) := by
  have look : ∀ (j : Nat) (u : Vp) (e : Pd), (X.set i (vz, none))[j]? = some (u, some e) → X[j]? = some (u, some e) := by
    intro j u e hj
    rw [List.getElem?_set] at hj
    split at hj
    · split at hj <;> cases hj
    · exact hj
  obtain ⟨M', hV⟩ := hV
  refine ⟨⟨M', by rw [xE_set]; exact hV⟩, fun j u e hj => h.pools hm (look j u e hj), fun j u e hj => h.lo j u e (look j u e hj), fun j k u z e f hj hk hne => h.apart _ _ _ _ _ _ (look j u e hj) (look k z f hk) hne⟩
/-- One is put in, with a new pool. -/
theorem Vx.add (h : Vx w b T m c X) {i : Nat} {v u : Vp} {d : Pd} (hi : X[i]? = some (u, none)) (hm : Mod (fun g => g = T ∨ g = m) w w') (hV : ∃ M', Vt w' b T m c ((xE X).set i (v, some d.p)) M') (hd : d.P w' c) (h0 : w.heap.size ≤ d.B) (h1 : w.heap.size ≤ d.p) (h2 : w.heap.size ≤ d.t) : Vx w' b T m c (X.set i (v, some d)) := by
  have hil : i < X.length := (List.getElem?_eq_some_iff.1 hi).1
  have look : ∀ (j : Nat) (u : Vp) (e : Pd), (X.set i (v, some d))[j]? = some (u, some e) → (j = i ∧ e = d) ∨ (j ≠ i ∧ X[j]? = some (u, some e)) := by
    intro j u e hj
    rw [List.getElem?_set] at hj
    split at hj
    · rename_i hij
      simp only [Option.some.injEq, Prod.mk.injEq] at hj
      exact .inl ⟨hij.symm, hj.2.symm⟩
    · rename_i hij
      exact .inr ⟨fun e => hij e.symm, hj⟩
  have old : ∀ (j : Nat) (u : Vp) (e : Pd), X[j]? = some (u, some e) → e.p < w.heap.size ∧ e.t < w.heap.size := by
    intro j u e hj
    have hP := h.pool j u e hj
    obtain ⟨cs, hc⟩ := hP.tAt
    exact ⟨hP.obj.lt, hc.lt⟩
  obtain ⟨M', hV⟩ := hV
  refine ⟨⟨M', by rw [xE_set]; exact hV⟩, ?_, ?_, ?_⟩
  · intro j u e hj
    rcases look j u e hj with ⟨rfl, rfl⟩ | ⟨_, hj⟩
    · exact hd
    · exact h.pools hm hj
  · intro j u e hj
    rcases look j u e hj with ⟨rfl, rfl⟩ | ⟨_, hj⟩
    · have := h.base; have := h.obj.lt; omega
    · exact h.lo j u e hj
  · intro j k u z e f hj hk hne
    rcases look j u e hj with ⟨ej, ed⟩ | ⟨hn1, hj'⟩ <;> rcases look k z f hk with ⟨ek, ef⟩ | ⟨hn2, hk'⟩
    · exact absurd (ej.trans ek.symm) hne
    · have := old _ _ _ hk'; rw [ed]; constructor <;> omega
    · have := old _ _ _ hj'; rw [ef]; constructor <;> omega
    · exact h.apart _ _ _ _ _ _ hj' hk' hne
end
end Go.Proofs.Ythfgccibiajneaa
