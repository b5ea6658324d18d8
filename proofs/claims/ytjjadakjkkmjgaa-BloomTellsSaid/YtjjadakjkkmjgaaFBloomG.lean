/-
  ones (chapter 14): the bits that are set, left off behind so many.
-/
import Derived.Test.YtjjadakjkkmjgaaFBloomF
namespace Go.Proofs.Ytjjadakjkkmjgaa
open Go.RowKit Go.Shelf
attribute [local go_sem] Oper.semAt_some
theorem onesTo_prefix (ws : List Nat) {k m : Nat} (h : k ≤ m) : onesTo ws k <+: onesTo ws m := by
  obtain ⟨d, rfl⟩ := Nat.exists_eq_add_of_le h
  induction d with
  | zero => exact List.prefix_refl _
  | succ d ih =>
    refine (ih (by omega)).trans ?_
    unfold onesTo
    rw [show k + (d + 1) = (k + d) + 1 by omega, List.range_succ, List.filter_append]
    exact List.prefix_append _ _
theorem not_row2 {W : World} {B : Nat} {t e : TypeId} {u : Value} (_ : Boxed W B t u) {base size k : Nat} {v : Value} {xs : List Value} (hr : W.ownsRow base e size v k xs) (hB : B < base) : some B ≠ v.ownBlock := by
  rcases hr.2 with ⟨rfl, _⟩ | ⟨g, cap, cur, rfl, hg, _, _⟩
  · simp [Value.ownBlock]
  · intro e'
    obtain rfl : B = g := by simpa [Value.ownBlock] using e'
    omega
theorem appended2 {W w1 : World} {n₀ b₀ B : Nat} {t e : TypeId} {size : Nat} {v v' : Value} {k m : Nat} {xs ys : List Value} {tmp : Obj}
    (hv : Boxed W B t v) (hte : t ≠ e) (hrow : W.ownsRow b₀ e size v k xs) (hn₀ : n₀ ≤ W.heap.size) (hb₀ : n₀ ≤ b₀) (hB : n₀ ≤ B)
    (hown' : w1.ownsRow b₀ e size v' m ys) (hgrow : (W.alloc tmp).grownBy w1 v.ownBlock) :
    Boxed w1 B t v ∧ Boxed (w1.setCell ⟨B, 0, none⟩ v') B t v' ∧ (w1.setCell ⟨B, 0, none⟩ v').ownsRow b₀ e size v' m ys ∧ KeepsOthers W (w1.setCell ⟨B, 0, none⟩ v') ∧ Below n₀ W (w1.setCell ⟨B, 0, none⟩ v') := by
  have hv1 : Boxed w1 B t v := (hv.alloc tmp).kept hgrow (hv.not_row hte hrow)
  refine ⟨hv1, hv1.set v', hown'.kept (grownBy_setCell' w1 B v') (.inr (hv1.not_row hte hown').symm), ?_, ?_⟩
  · refine ((KeepsOthers.alloc W tmp).trans (KeepsOthers.of_grownBy hgrow fun j o ej hj => ?_)).trans (KeepsOthers.setCell _ _ _)
    rcases (hrow.alloc tmp).2 with ⟨rfl, _⟩ | ⟨g, cap, cur, rfl, _, hgb, _⟩
    · simp [Value.ownBlock] at ej
    · obtain rfl : g = j := by simpa [Value.ownBlock] using ej
      rw [hgb] at hj; cases hj; rfl
  · refine (((Below.refl n₀ W).alloc hn₀ tmp).grown hgrow (by simp; omega) fun j ej => ?_).setCell (p := ⟨B, 0, none⟩) hB v'
    rcases hrow.2 with ⟨rfl, _⟩ | ⟨g, cap, cur, rfl, hb, _, _⟩
    · simp [Value.ownBlock] at ej
    · obtain rfl : g = j := by simpa [Value.ownBlock] using ej
      omega
theorem on_snoc (pre : List Nat) (x : Nat) : i64s ((pre ++ [x]).map fun p : Nat => (p : Int)) = i64s (pre.map fun p : Nat => (p : Int)) ++ [.int .i64 (x : Nat)] := by simp [i64s]
set_option maxRecDepth 100000 in
set_option maxHeartbeats 4000000 in
theorem onesl_any (gb gw gf N n : Nat) (ws : List Nat) (most : Int) (w : World) (hN2 : N ≤ 65536) (hn : n = nw N) (hl : ws.length = n) (hx : ∀ x ∈ ws, x < 18446744073709551616) (hB : At w gb 92 (bcs gf N gw n)) (hW : At w gw 86 (wd ws)) :
    Calls Try.prog 36 #[.pointer (some ⟨gb, 0, none⟩), .int .i64 most] w fun e w' => ∃ v, e = .returned v ∧ OI w' w.heap.size v ((cutN most (onesTo ws N)).map fun p : Nat => (p : Int)) ∧ Below w.heap.size w w' := by
  obtain ⟨i0, hi, hz0, hz1, hz2⟩ := info_parts infoInt
  have heq := fun (w : World) (fn : Fn) (fi ca : Array Value) => run_eql_func_nil (P := Try.prog) w 95 fn fi ca Try.underlying95
  refine (callsIn_wide (n := 5)).1 ?_
  refine callsIn_of_wp_marks Try.func36 rfl trivial ?_ rfl
  simp only [Try.ntmps36, List.size_toArray, List.length_cons, List.length_nil, Nat.reduceAdd, Nat.reduceSub, Array.replicate_succ, Array.replicate_zero, List.push_toArray, List.append_toArray, List.nil_append, List.cons_append]
  gi_wp2_with (refine ⟨trivial, ?_⟩; gi_at_call 55; refine (callsIn_wide.2 (onesv_any _ _)).mono ?_; rintro e w' ⟨rfl, rfl⟩)
  obtain ⟨W0, hW0⟩ : ∃ W0, ((w.alloc (.cells #[.int .i64 most] 3)).alloc (.cells #[.slice none 0 0] 22)).alloc (.cells #[.pointer (some ⟨gb, 0, none⟩)] 61) = W0 := ⟨_, rfl⟩
  have bM := ((Boxed.new w 3 (.int .i64 most)).alloc (.cells #[.slice none 0 0] 22)).alloc (.cells #[.pointer (some ⟨gb, 0, none⟩)] 61)
  have bL := (Boxed.new (w.alloc (.cells #[.int .i64 most] 3)) 22 (.slice none 0 0)).alloc (.cells #[.pointer (some ⟨gb, 0, none⟩)] 61)
  have bS := At.new ((w.alloc (.cells #[.int .i64 most] 3)).alloc (.cells #[.slice none 0 0] 22)) 61 #[.pointer (some ⟨gb, 0, none⟩)]
  simp only [World.size_alloc] at bL bS
  have hB0 : Below w.heap.size w (((w.alloc (.cells #[.int .i64 most] 3)).alloc (.cells #[.slice none 0 0] 22)).alloc (.cells #[.pointer (some ⟨gb, 0, none⟩)] 61)) := (((Below.refl _ w).alloc (Nat.le_refl _) _).alloc (by simp) _).alloc (by simp; omega) _
  have hsz0 : (((w.alloc (.cells #[.int .i64 most] 3)).alloc (.cells #[.slice none 0 0] 22)).alloc (.cells #[.pointer (some ⟨gb, 0, none⟩)] 61)).heap.size = w.heap.size + 3 := by simp
  rw [hW0] at bM bL bS hB0 hsz0 ⊢
  clear hW0
  have hgb := hB.lt
  have hgw := hW.lt
  have hBB := hB.below hB0 hgb
  have hWW := hW.below hB0 hgw
  generalize hn0 : w.heap.size = n0 at *
  refine wpIn_rangeFunc_ownH rfl (by omega) (gf := 66) (lb := #[.pointer (some ⟨n0 + 1 + 1, 0, none⟩)]) rfl trivial (enters_of Try.func66 (by kernel_rfl) rfl)
    (ones_stops (5 - 1) (n0 + 1 + 1) n0 gb gw gf N n ws hN2 hn hl hx hgb hgw W0 (by omega) (by omega) bS hBB hWW) KpO.t (KpO.b (by omega) (by omega)) (Below.refl _ _) (fun _ => rfl)
    (fun pre W => ((((∃ v, Boxed W (n0 + 1) 22 v ∧ W.ownsRow (n0 + 3) 3 1 v pre.length (i64s (pre.map fun p : Nat => (p : Int))) ∧ True) ∧ Boxed W n0 3 (.int .i64 most)) ∧ At W (n0 + 1 + 1) 61 #[.pointer (some ⟨gb, 0, none⟩)]) ∧ (most < 0 ∨ (pre.length : Int) ≤ most)) ∧ Below n0 w W)
    (fun c' pre W => ((∃ v, Boxed W (n0 + 1) 22 v ∧ W.ownsRow (n0 + 3) 3 1 v (pre.length - 1) (i64s (pre.dropLast.map fun p : Nat => (p : Int))) ∧ True) ∧ (c' = .exit 0 ∧ 1 ≤ pre.length ∧ (pre.length : Int) - 1 = most)) ∧ Below n0 w W)
    (OwnFrom.and (OwnFrom.and (OwnFrom.and (OwnFrom.and (Own.from (holdsRow_own (n0 + 3) (n0 + 1) 22 3 1 (fun (pre : List Nat) => pre.length) (fun (pre : List Nat) => i64s (pre.map fun p : Nat => (p : Int))) (fun _ _ => True)) _) (Own.from (boxed_own _ _ _) _)) (Own.from (at_own _ _ _) _)) (ownFrom_pure _ _)) (ownFrom_below (by omega) (by omega)))
    (fun c' => OwnFrom.and (OwnFrom.and (Own.from (holdsRow_own (n0 + 3) (n0 + 1) 22 3 1 (fun (pre : List Nat) => pre.length - 1) (fun (pre : List Nat) => i64s (pre.dropLast.map fun p : Nat => (p : Int))) (fun _ _ => True)) _) (ownFrom_pure _ _)) (ownFrom_below (by omega) (by omega)))
    ⟨⟨⟨⟨⟨_, bL, World.ownsRow_nil _ _ _ _, trivial⟩, bM⟩, bS⟩, by simp; omega⟩, hB0⟩
    (fun x a' W => a' = { tmps := #[.pointer (some ⟨gb, 0, none⟩), .int .i64 most, undef, .pointer (some ⟨n0, 0, none⟩), .slice none 0 0, .pointer (some ⟨n0 + 1, 0, none⟩), .func (.func 66) #[] #[.pointer (some ⟨n0 + 1 + 1, 0, none⟩)], .int .i64 x, .pointer (some ⟨gb, 0, none⟩), .func (.func 66) #[] #[.pointer (some ⟨n0 + 1 + 1, 0, none⟩)], .func (.func 66) #[] #[.pointer (some ⟨n0 + 1 + 1, 0, none⟩)], .bool false, .func (.func 66) #[] #[.pointer (some ⟨n0 + 1 + 1, 0, none⟩)], .int .i64 x, undef, undef, undef, undef, undef, undef, undef, undef, undef], defers := [] })
    (fun x a' _ X Y row hs hg hr => hs)
    ?assign ?body ?done ?stop
  case assign =>
    rintro l' pre x W K ⟨⟨⟨⟨⟨v, bv, hrow, _⟩, bM1⟩, bS1⟩, hp⟩, hB1⟩ hK
    simp only [onEnc]
    gi_wp2
    exact hK _ _ (KeepsFrom.refl _ _) (KpO.refl _ _ _) ⟨⟨⟨⟨⟨v, bv, hrow, trivial⟩, bM1⟩, bS1⟩, hp⟩, hB1⟩ rfl
  case body =>
    rintro l' pre x a' W hl' ⟨r, hr⟩ ⟨⟨⟨⟨⟨v, bv, hrow, _⟩, bM1⟩, bS1⟩, hp⟩, hB1⟩ rfl hlt
    have cM := bM1.cell
    have cL := bv.cell
    have hsW : n0 + 1 + 1 < W.heap.size := bS1.lt
    obtain ⟨ad, cap, hv⟩ : ∃ ad cap, v = .slice ad pre.length cap := by
      rcases hrow.2 with ⟨h1, h2⟩ | ⟨g, cap, cur, h1, _⟩
      · exact ⟨none, 0, by rw [h1, h2]⟩
      · exact ⟨_, _, h1⟩
    subst hv
    by_cases hm : (pre.length : Int) = most
    · gi_wp2
      exact ⟨KeepsFrom.refl _ _, ⟨⟨_, bv, by simpa using hrow, trivial⟩, rfl, by simp, by simp; exact hm⟩, hB1⟩
    · have hml : 65537 ≤ maxLen := by decide
      have hpl : pre.length < 65536 := by omega
      have hn0W : n0 ≤ W.heap.size := by omega
      have hsz3 : n0 + 3 ≤ W.heap.size := by omega
      gi_wp2_with (gi_at_builtin; refine wpListIn_append_own _ rfl _ _ 22 rfl (n0 + 3) 3 i0 (.int .i64 0) 1 8 Try.underlying22 hi hz0 hz1 hz2 rfl (by decide) _ _ _ rfl (hrow.alloc _) ⟨W.heap.size, 0, none⟩ 1 1 [.int .i64 (x : Nat)] rfl rfl (cells_new _ _ _) (by simp [Value.oneCell']) (by omega) (by omega) (by simp; omega) ?_; intro v' w1 hown' hgrow _; obtain ⟨g', cap', rfl⟩ := ownsRow_succ hown'; obtain ⟨hv1, hv2, hr2, hk2, hb2⟩ := appended2 bv (by decide) hrow hn0W (by omega) (by omega) hown' hgrow; have hc1 := hv1.cell; have hf1 := hv1.frozen)
      have bM2 := ((bM1.alloc _).kept hgrow (not_row2 bM1 hrow (by omega))).other (B' := n0 + 1) (by omega) (.slice (some ⟨g', 0, none⟩) (pre.length + 1) cap')
      have bS2 := at_other ((bS1.alloc _).kept' hgrow (bS1.not_row (by decide) hrow)) (B' := n0 + 1) (by omega) (.slice (some ⟨g', 0, none⟩) (pre.length + 1) cap')
      exact ⟨hk2.from _, ⟨hb2, Eq.trans (show _ = _ from bS2) (Eq.symm (show _ = _ from bS1))⟩, ⟨⟨⟨⟨_, hv2, by rw [on_snoc, List.length_append]; exact hr2, trivial⟩, bM2⟩, bS2⟩, by simp only [List.length_append, List.length_cons, List.length_nil]; omega⟩, hB1.trans hb2⟩
  case done =>
    rintro D ys W hD rfl ⟨⟨⟨⟨⟨v, bv, hrow, _⟩, bM1⟩, bS1⟩, hp⟩, hB1⟩ hK
    have hc := bv.cell
    have hcut : cutN most (onesTo ws N) = onesTo ws N := by
      unfold cutN
      split
      · rfl
      · exact List.take_of_length_le (by omega)
    gi_wp2
    subst hn0
    refine ⟨by simp, .inl ⟨_, _, rfl, run_takeDeferred hK, ?_⟩⟩
    exact ⟨_, results_tmp rfl _ _ _, v, rfl, by rw [hcut]; exact OI.base (show OI _ _ _ _ from (by unfold OI; rw [List.length_map]; exact ownsRow_putObj hrow _ hK rfl)) (by omega), hB1.trans (belowK_b (w := w) (Nat.le_refl _) W D _ _ (by omega) hK rfl rfl)⟩
  case stop =>
    rintro D c' pre W hD ⟨q, hq, rfl⟩ ⟨⟨⟨v, bv, hrow, _⟩, rfl, hp1, hp2⟩, hB1⟩ hK
    have hc := bv.cell
    have hcut : cutN most (onesTo ws N) = (onesTo ws q).dropLast := by
      obtain ⟨t, ht⟩ := onesTo_prefix ws hq
      unfold cutN
      rw [if_neg (by omega), ← ht, List.take_append_of_le_length (by omega), List.dropLast_eq_take]
      congr 1
      omega
    gi_wp2
    subst hn0
    refine ⟨by simp, .inl ⟨_, _, rfl, run_takeDeferred hK, ?_⟩⟩
    exact ⟨_, results_tmp rfl _ _ _, v, rfl, by rw [hcut]; exact OI.base (show OI _ _ _ _ from (by unfold OI; rw [List.length_map, List.length_dropLast]; exact ownsRow_putObj hrow _ hK rfl)) (by omega), hB1.trans (belowK_b (w := w) (Nat.le_refl _) W D _ _ (by omega) hK rfl rfl)⟩
end Go.Proofs.Ytjjadakjkkmjgaa
