/-
  The grid's methods, one contract each, for each type that a grid is made of.
-/
import Derived.Test.YtjlgkljifpjehaaGridAll
import Derived.WalkSpells
import Derived.WalkLawsBesides
import Derived.Lib.Hide
import Derived.Laws.MakeOwn
import Derived.OwnWalk
import Derived.RangeFuncNested
import Derived.RangeFuncBound
import Derived.RangeFuncCalls
import Derived.RangeFuncLeaves
import Derived.RangeFuncBox
import Derived.Shelf.Abstract
import Derived.Shelf.RegionOpen
import Derived.WalkKit
import Derived.OwnWalkIn
import Derived.TacticsInMore
import Derived.LoopNIn
import Derived.LoopIn
import Derived.Laws.StructEq
namespace Go.Proofs.Ytjlgkljifpjehaa
open Go.RowKit Go.Shelf
attribute [local go_sem] Oper.semAt_some
theorem run_equalIn_func_nil {P : Program} (w : World) (d : Nat) (t : TypeId) {ps rs : Array TypeId} {v : Bool} (fn : Fn) (fi ca : Array Value) (h : P.underlying t = some (.func ps rs v)) :
    (Op.equalIn (d + 1) t (.func fn fi ca) .nilFunc).run P w = .ok false w := by
  simp [Op.equalIn, run_underlying h]
/-- 'f == nil', f a function's value. -/
theorem run_eql_func_nil {P : Program} (w : World) (t : TypeId) {ps rs : Array TypeId} {v : Bool} (fn : Fn) (fi ca : Array Value) (h : P.underlying t = some (.func ps rs v)) :
    (binOp .eql t (.func fn fi ca) .nilFunc).run P w = .ok (.bool false) w := by
  simp only [binOp]
  simp [Op.equal, Op.maxDepth, run_equalIn_func_nil w 9999 t fn fi ca h]
namespace Gi
/-- A struct of cells, unturned by whatever turns no cells. -/
theorem at_own {β : Type} (B : Nat) (t : TypeId) (cs : Array Value) : Own (fun (_ : β) W => At W B t cs) := fun s X Y row hs hg hrow =>
  (hg.block B (At.lt hs) (fun e' => by obtain ⟨o, ho, hc⟩ := hrow B e'.symm; rw [show X.heap[B]? = _ from hs] at ho; cases ho; cases hc)).trans hs
theorem cells_new (w : World) (cs : Array Value) (t : TypeId) : ∀ j u, cs.toList[j]? = some u → (w.alloc (.cells cs t)).cell? ((⟨w.heap.size, 0, none⟩ : Addr).add j) = some u := by
  intro j u hj
  have := (At.new w t cs).cell j
  rw [Array.getElem?_toList] at hj
  rw [← hj, ← this]
  by_cases h0 : j = 0 <;> simp [Addr.add, h0]
theorem infoI : (Try.prog.info? 41).map (fun i => (i.zero, i.size, i.bytes)) = some (some (.agg #[.int .i64 0, .int .i64 0, .int .i64 0]), 3, 24) := by kernel_rfl
/-- An item's cells. -/
def item (sz : Nat) (x : Nat × V) : List Value := [.int .i64 ((x.1 / sz : Nat) : Int), .int .i64 ((x.1 % sz : Nat) : Int), .int .i64 x.2]
theorem items_snoc (sz : Nat) (pre : List (Nat × V)) (x : Nat × V) : (pre ++ [x]).flatMap (item sz) = pre.flatMap (item sz) ++ item sz x := by simp
/-- What is left off behind so many; below 0: never. -/
def cut (most : Int) (xs : List (Nat × V)) : List (Nat × V) := if most < 0 then xs else xs.take most.toNat
theorem got_prefix (l : List (Option V)) {k m : Nat} (h : k ≤ m) : got l k <+: got l m := by
  obtain ⟨d, rfl⟩ := Nat.exists_eq_add_of_le h
  induction d with
  | zero => exact List.prefix_refl _
  | succ d ih =>
    refine (ih (by omega)).trans ?_
    unfold got
    rw [show k + (d + 1) = (k + d) + 1 by omega, List.range_succ, List.filterMap_append]
    exact List.prefix_append _ _
set_option maxRecDepth 100000 in
set_option maxHeartbeats 4000000 in
theorem walk_any (gh gl st sz : Nat) (l : List (Option V)) (most : Int) (w : World) (h : Gr w gh gl st sz l) (h1 : 1 ≤ sz) :
    Calls Try.prog 19 #[.pointer (some ⟨gh, 0, none⟩), .int .i64 most] w fun e w' => ∃ v, e = .returned v ∧ w'.ownsRow w.heap.size 41 3 v (cut most (got l (st * sz))).length ((cut most (got l (st * sz))).flatMap (item sz)) ∧ Below w.heap.size w w' := by
  obtain ⟨i0, hi, hz0, hz1, hz2⟩ := info_parts infoI
  have hN : st * sz ≤ 4096 := place_le h.2.2.2.2.1 h.2.2.2.2.2
  have hll : l.length = st * sz := h.2.2.1
  have heq := fun (w : World) (fn : Fn) (fi ca : Array Value) => run_eql_func_nil (P := Try.prog) w 98 fn fi ca Try.underlying98
  refine (callsIn_wide (n := 5)).1 ?_
  refine callsIn_of_wp_marks Try.func19 rfl trivial ?_ rfl
  simp only [Try.ntmps19, List.size_toArray, List.length_cons, List.length_nil, Nat.reduceAdd, Nat.reduceSub, Array.replicate_succ, Array.replicate_zero, List.push_toArray, List.append_toArray, List.nil_append, List.cons_append]
  gi_wp2_with (refine ⟨trivial, ?_⟩; gi_at_call 50; refine (callsIn_wide.2 (allv_any _ _)).mono ?_; rintro e w' ⟨rfl, rfl⟩)
  obtain ⟨W0, hW0⟩ : ∃ W0, ((w.alloc (.cells #[.int .i64 most] 3)).alloc (.cells #[.slice none 0 0] 36)).alloc (.cells #[.pointer (some ⟨gh, 0, none⟩)] 25) = W0 := ⟨_, rfl⟩
  have bM := ((Boxed.new w 3 (.int .i64 most)).alloc (.cells #[.slice none 0 0] 36)).alloc (.cells #[.pointer (some ⟨gh, 0, none⟩)] 25)
  have bL := (Boxed.new (w.alloc (.cells #[.int .i64 most] 3)) 36 (.slice none 0 0)).alloc (.cells #[.pointer (some ⟨gh, 0, none⟩)] 25)
  have bG := Boxed.new ((w.alloc (.cells #[.int .i64 most] 3)).alloc (.cells #[.slice none 0 0] 36)) 25 (.pointer (some ⟨gh, 0, none⟩))
  simp only [World.size_alloc] at bL bG
  have hB0 : Below w.heap.size w (((w.alloc (.cells #[.int .i64 most] 3)).alloc (.cells #[.slice none 0 0] 36)).alloc (.cells #[.pointer (some ⟨gh, 0, none⟩)] 25)) := (((Below.refl _ w).alloc (Nat.le_refl _) _).alloc (by simp) _).alloc (by simp; omega) _
  have hsz : (((w.alloc (.cells #[.int .i64 most] 3)).alloc (.cells #[.slice none 0 0] 36)).alloc (.cells #[.pointer (some ⟨gh, 0, none⟩)] 25)).heap.size = w.heap.size + 3 := by simp
  rw [hW0] at bM bL bG hB0 hsz ⊢
  clear hW0
  have hgl1 := h.1.lt
  have hgl2 := h.2.1.lt
  have hG0 : Gr W0 gh gl st sz l := h.below hB0 hgl1 hgl2
  generalize hn0 : w.heap.size = n0 at *
  refine wpIn_rangeFunc_ownH rfl (by omega) (gf := 59) (lb := #[.pointer (some ⟨n0 + 1 + 1, 0, none⟩)]) rfl trivial (enters_of Try.func59 (by kernel_rfl) rfl)
    (all_stops (5 - 1) (n0 + 1 + 1) n0 gh gl st sz l h1 hgl1 hgl2 W0 (by omega) (by omega) bG.cell hG0) Kp.t (Kp.b (by omega) (by omega)) (Below.refl _ _) (fun _ => rfl)
    (fun pre W => ((((∃ v, Boxed W (n0 + 1) 36 v ∧ W.ownsRow n0 41 3 v pre.length (pre.flatMap (item sz)) ∧ True) ∧ Boxed W n0 3 (.int .i64 most)) ∧ Boxed W (n0 + 1 + 1) 25 (.pointer (some ⟨gh, 0, none⟩))) ∧ (most < 0 ∨ (pre.length : Int) ≤ most)) ∧ Below n0 w W)
    (fun c pre W => ((∃ v, Boxed W (n0 + 1) 36 v ∧ W.ownsRow n0 41 3 v (pre.length - 1) (pre.dropLast.flatMap (item sz)) ∧ True) ∧ (c = .exit 0 ∧ 1 ≤ pre.length ∧ (pre.length : Int) - 1 = most)) ∧ Below n0 w W)
    (OwnFrom.and (OwnFrom.and (OwnFrom.and (OwnFrom.and (Own.from (holdsRow_own n0 (n0 + 1) 36 41 3 (fun (pre : List (Nat × V)) => pre.length) (fun (pre : List (Nat × V)) => pre.flatMap (item sz)) (fun _ _ => True)) _) (Own.from (boxed_own _ _ _) _)) (Own.from (boxed_own _ _ _) _)) (ownFrom_pure _ _)) (ownFrom_below (by omega) (by omega)))
    (fun c => OwnFrom.and (OwnFrom.and (Own.from (holdsRow_own n0 (n0 + 1) 36 41 3 (fun (pre : List (Nat × V)) => pre.length - 1) (fun (pre : List (Nat × V)) => pre.dropLast.flatMap (item sz)) (fun _ _ => True)) _) (ownFrom_pure _ _)) (ownFrom_below (by omega) (by omega)))
    ⟨⟨⟨⟨⟨_, bL, World.ownsRow_nil _ _ _ _, trivial⟩, bM⟩, bG⟩, by simp; omega⟩, hB0⟩
    (fun x a' W => ∃ Bx, n0 + 1 + 1 < Bx ∧ At W Bx 23 #[.int .i64 ((x.1 / sz : Nat) : Int), .int .i64 ((x.1 % sz : Nat) : Int)] ∧ a' = { tmps := #[.pointer (some ⟨gh, 0, none⟩), .int .i64 most, undef, .pointer (some ⟨n0, 0, none⟩), .slice none 0 0, .pointer (some ⟨n0 + 1, 0, none⟩), .func (.func 59) #[] #[.pointer (some ⟨n0 + 1 + 1, 0, none⟩)], .pointer (some ⟨Bx, 0, none⟩), .int .i64 x.2, .pointer (some ⟨gh, 0, none⟩), .func (.func 59) #[] #[.pointer (some ⟨n0 + 1 + 1, 0, none⟩)], .func (.func 59) #[] #[.pointer (some ⟨n0 + 1 + 1, 0, none⟩)], .bool false, .func (.func 59) #[] #[.pointer (some ⟨n0 + 1 + 1, 0, none⟩)], .agg #[.int .i64 ((x.1 / sz : Nat) : Int), .int .i64 ((x.1 % sz : Nat) : Int)], .int .i64 x.2, undef, undef, undef, undef, undef, undef, undef, undef, undef, undef, undef], defers := [] })
    (fun x a' _ X Y row hs hg hr => by obtain ⟨Bx, h1, h2, h3⟩ := hs; exact ⟨Bx, h1, at_own Bx _ _ () X Y row h2 hg (fun r e => (hr r e).2), h3⟩)
    ?assign ?body ?done ?stop
  case assign =>
    rintro l' pre x W K ⟨⟨⟨⟨⟨v, bv, hrow, _⟩, bM1⟩, bG1⟩, hp⟩, hB1⟩ hK
    simp only [encs]
    gi_wp2
    exact hK _ _ ((KeepsOthers.alloc _ _).from _) ⟨(Below.refl n0 W).alloc (by have := bM1.lt; omega) _, Below.heap_alloc W _ _ bG1.lt⟩ ⟨⟨⟨⟨(holdsRow_own n0 (n0 + 1) 36 41 3 (fun (pre : List (Nat × V)) => pre.length) (fun (pre : List (Nat × V)) => pre.flatMap (item sz)) (fun _ _ => True)).alloc _ ⟨v, bv, hrow, trivial⟩, bM1.alloc _⟩, bG1.alloc _⟩, hp⟩, hB1.alloc (by have := bM1.lt; omega) _⟩ ⟨W.heap.size, bG1.lt, At.new W _ _, rfl⟩
  case body =>
    rintro l' pre x a' W hl ⟨r, hr⟩ ⟨⟨⟨⟨⟨v, bv, hrow, _⟩, bM1⟩, bG1⟩, hp⟩, hB1⟩ ⟨Bx, hBx, bX, rfl⟩ hlt
    have cM := bM1.cell
    have cL := bv.cell
    have cX0 := bX.cell 0
    have cX1 := bX.cell 1
    simp only [List.getElem?_toArray, List.getElem?_cons_zero, List.getElem?_cons_succ] at cX0 cX1
    have hsW : n0 + 1 + 1 < W.heap.size := bG1.lt
    have e1 : Bx < W.heap.size := bX.lt
    obtain ⟨ad, cap, hv⟩ : ∃ ad cap, v = .slice ad pre.length cap := by
      rcases hrow.2 with ⟨h1, h2⟩ | ⟨g, cap, cur, h1, _⟩
      · exact ⟨none, 0, by rw [h1, h2]⟩
      · exact ⟨_, _, h1⟩
    subst hv
    by_cases hm : (pre.length : Int) = most
    · gi_wp2
      exact ⟨KeepsFrom.refl _ _, ⟨⟨_, bv, by simpa using hrow, trivial⟩, rfl, by simp, by simp; exact hm⟩, hB1⟩
    · have hml : 4097 ≤ maxLen := by decide
      have hpl : pre.length < 4096 := by omega
      have hn0W : n0 ≤ W.heap.size := by omega
      gi_wp2_with (gi_at_builtin; refine wpListIn_append_own _ rfl _ _ 36 rfl n0 41 i0 (.agg #[.int .i64 0, .int .i64 0, .int .i64 0]) 3 24 Try.underlying36 hi hz0 hz1 hz2 rfl (by decide) _ _ _ rfl (hrow.alloc _) ⟨W.heap.size, 0, none⟩ 1 1 (item sz x) rfl rfl (cells_new _ _ _) (by simp [item, Value.oneCell']) (by omega) (by omega) (by simp; omega) ?_; intro v' w1 hown' hgrow _; obtain ⟨g', cap', rfl⟩ := ownsRow_succ hown'; obtain ⟨hv1, hv2, hr2, hk2, hb2⟩ := bv.appended (by decide) hrow hn0W (by omega) hown' hgrow; have hc1 := hv1.cell; have hf1 := hv1.frozen)
      have bG2 := ((bG1.alloc _).kept hgrow (bG1.not_row (by decide) hrow)).other (B' := n0 + 1) (by omega) (.slice (some ⟨g', 0, none⟩) (pre.length + 1) cap')
      have bM2 := ((bM1.alloc _).kept hgrow (bM1.not_row (by decide) hrow)).other (B' := n0 + 1) (by omega) (.slice (some ⟨g', 0, none⟩) (pre.length + 1) cap')
      exact ⟨hk2.from _, ⟨hb2, Eq.trans (show _ = _ from bG2) (Eq.symm (show _ = _ from bG1))⟩, ⟨⟨⟨⟨_, hv2, by rw [items_snoc, List.length_append]; exact hr2, trivial⟩, bM2⟩, bG2⟩, by simp only [List.length_append, List.length_cons, List.length_nil]; omega⟩, hB1.trans hb2⟩
  case done =>
    rintro D ys W hD rfl ⟨⟨⟨⟨⟨v, bv, hrow, _⟩, bM1⟩, bG1⟩, hp⟩, hB1⟩ hK
    have hc := bv.cell
    have hcut : cut most (got l (st * sz)) = got l (st * sz) := by
      unfold cut
      split
      · rfl
      · exact List.take_of_length_le (by omega)
    gi_wp2
    subst hn0
    refine ⟨by simp, .inl ⟨_, _, rfl, run_takeDeferred hK, ?_⟩⟩
    exact ⟨_, results_tmp rfl _ _ _, v, rfl, by rw [hcut]; exact ownsRow_putObj hrow _ hK rfl, hB1.trans (belowK_b (w := w) (Nat.le_refl _) W D _ _ (by omega) hK rfl rfl)⟩
  case stop =>
    rintro D c pre W hD ⟨k, hk, rfl⟩ ⟨⟨⟨v, bv, hrow, _⟩, rfl, hp1, hp2⟩, hB1⟩ hK
    have hc := bv.cell
    have hcut : cut most (got l (st * sz)) = (got l k).dropLast := by
      obtain ⟨t, ht⟩ := got_prefix l hk
      unfold cut
      rw [if_neg (by omega), ← ht, List.take_append_of_le_length (by omega), List.dropLast_eq_take]
      congr 1
      omega
    gi_wp2
    subst hn0
    refine ⟨by simp, .inl ⟨_, _, rfl, run_takeDeferred hK, ?_⟩⟩
    exact ⟨_, results_tmp rfl _ _ _, v, rfl, by rw [hcut, List.length_dropLast]; exact ownsRow_putObj hrow _ hK rfl, hB1.trans (belowK_b (w := w) (Nat.le_refl _) W D _ _ (by omega) hK rfl rfl)⟩
end Gi
end Go.Proofs.Ytjlgkljifpjehaa
