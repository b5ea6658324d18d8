/-
  all (chapter 13): a flow's places, left off behind so many.
-/
import Derived.Test.YthfgccibiajneaaFamPlaces
namespace Go.Proofs.Ythfgccibiajneaa
open Go.RowKit Go.Shelf
attribute [local go_sem] Oper.semAt_some
theorem run_equalIn_func_nil {P : Program} (w : World) (d : Nat) (t : TypeId) {ps rs : Array TypeId} {v : Bool} (fn : Fn) (fi ca : Array Value) (h : P.underlying t = some (.func ps rs v)) :
    (Op.equalIn (d + 1) t (.func fn fi ca) .nilFunc).run P w = .ok false w := by
  simp [Op.equalIn, run_underlying h]
/-- 'f == nil', f a function's value. -/
theorem run_eql_func_nil {P : Program} (w : World) (t : TypeId) {ps rs : Array TypeId} {v : Bool} (fn : Fn) (fi ca : Array Value) (h : P.underlying t = some (.func ps rs v)) :
    (binOp .eql t (.func fn fi ca) .nilFunc).run P w = .ok (.bool false) w := by
  simp only [binOp]
  simp [Op.equal, Op.maxDepth, run_equalIn_func_nil w 9999 t fn fi ca h]
/-- A struct of cells, unturned by whatever turns no cells. -/
theorem at_own {β : Type} (B : Nat) (t : TypeId) (cs : Array Value) : Own (fun (_ : β) W => At W B t cs) := fun s X Y row hs hg hrow =>
  (hg.block B (At.lt hs) (fun e' => by obtain ⟨o, ho, hc⟩ := hrow B e'.symm; rw [show X.heap[B]? = _ from hs] at ho; cases ho; cases hc)).trans hs
theorem cells_new (w : World) (cs : Array Value) (t : TypeId) : ∀ j u, cs.toList[j]? = some u → (w.alloc (.cells cs t)).cell? ((⟨w.heap.size, 0, none⟩ : Addr).add j) = some u := by
  intro j u hj
  have := (At.new w t cs).cell j
  rw [Array.getElem?_toList] at hj
  rw [← hj, ← this]
  by_cases h0 : j = 0 <;> simp [Addr.add, h0]
theorem At.kept' {W W' : World} {row : Option Nat} {B : Nat} {t : TypeId} {cs : Array Value} (h : At W B t cs) (hg : W.grownBy W' row) (hne : some B ≠ row) : At W' B t cs := (hg.block B h.lt hne).trans h
theorem At.not_row {W : World} {B : Nat} {t e : TypeId} {cs : Array Value} (h : At W B t cs) (hte : t ≠ e) {base size k : Nat} {v : Value} {xs : List Value} (hr : W.ownsRow base e size v k xs) : some B ≠ v.ownBlock := by
  rcases hr.2 with ⟨rfl, _⟩ | ⟨g, cap, cur, rfl, _, hgb, _⟩
  · simp [Value.ownBlock]
  · intro e'
    obtain rfl : B = g := by simpa [Value.ownBlock] using e'
    have := (show W.heap[B]? = _ from h).symm.trans hgb
    simp at this
    exact hte this.2
theorem at_other {W : World} {B B' : Nat} {t : TypeId} {cs : Array Value} (h : At W B t cs) (hne : B ≠ B') (u : Value) : At (W.setCell ⟨B', 0, none⟩ u) B t cs := h.far hne u
theorem infoPl : (Try.prog.info? 41).map (fun i => (i.zero, i.size, i.bytes)) = some (some (.agg #[.int .i64 0, .int .i64 0]), 2, 16) := by kernel_rfl
/-- A place's cells. -/
def plCells (c : Cf) (k : Ky) (s : Nat) : List Value := [.int .i64 s, .int .i64 (idx c k s)]
theorem pl_snoc (c : Cf) (k : Ky) (pre : List Nat) (x : Nat) : (pre ++ [x]).flatMap (plCells c k) = pre.flatMap (plCells c k) ++ plCells c k x := by simp
/-- What is left off behind so many; below 0: never. -/
def cutN (most : Int) (xs : List Nat) : List Nat := if most < 0 then xs else xs.take most.toNat
theorem range_prefix {k m : Nat} (h : k ≤ m) : List.range k <+: List.range m := by
  obtain ⟨d, rfl⟩ := Nat.exists_eq_add_of_le h
  induction d with
  | zero => exact List.prefix_refl _
  | succ d ih =>
    refine (ih (by omega)).trans ?_
    rw [show k + (d + 1) = (k + d) + 1 by omega, List.range_succ]
    exact List.prefix_append _ _
set_option maxRecDepth 100000 in
set_option maxHeartbeats 4000000 in
theorem all_any (gf : Nat) (c : Cf) (k : Ky) (most : Int) (w : World) (h : At w gf 139 (fc c)) (hst : c.stages ≤ 4) (hsz : 1 ≤ c.size) :
    Calls Try.prog 28 #[.pointer (some ⟨gf, 0, none⟩), .agg (kc k), .int .i64 most] w fun e w' => ∃ v, e = .returned v ∧ w'.ownsRow w.heap.size 41 2 v (cutN most (List.range (plN c k))).length ((cutN most (List.range (plN c k))).flatMap (plCells c k)) ∧ Below w.heap.size w w' := by
  obtain ⟨i0, hi, hz0, hz1, hz2⟩ := info_parts infoPl
  have hN4 : plN c k ≤ 4 := by unfold plN; split <;> omega
  have heq := fun (w : World) (fn : Fn) (fi ca : Array Value) => run_eql_func_nil (P := Try.prog) w 147 fn fi ca Try.underlying147
  refine (callsIn_wide (n := 5)).1 ?_
  refine callsIn_of_wp_marks Try.func28 rfl trivial ?_ rfl
  simp only [Try.ntmps28, List.size_toArray, List.length_cons, List.length_nil, Nat.reduceAdd, Nat.reduceSub, Array.replicate_succ, Array.replicate_zero, List.push_toArray, List.append_toArray, List.nil_append, List.cons_append]
  have HK0 := Lib.hid (show At (((w.alloc (.cells (kc k) 31)).alloc (.cells #[.int .i64 most] 3)).alloc (.cells #[.slice none 0 0] 53)) w.heap.size 31 (kc k) from ((At.new w 31 (kc k)).alloc _).alloc _)
  gi_wp2_with (first | (refine wpListIn_load_part rfl 31 _ rfl _ 37 Try.underlying31 rfl sizeK w.heap.size 0 31 (kc k) rfl HK0.out (by rw [kc_size]; decide) ?_) | (refine ⟨trivial, ?_⟩; gi_at_call 88; refine (callsIn_wide.2 (placesv_any _ _ _)).mono ?_; rintro e w' ⟨rfl, rfl⟩))
  obtain ⟨W0, hW0⟩ : ∃ W0, ((((w.alloc (.cells (kc k) 31)).alloc (.cells #[.int .i64 most] 3)).alloc (.cells #[.slice none 0 0] 53)).alloc (.cells #[.pointer (some ⟨gf, 0, none⟩)] 37)).alloc (.cells (kc k) 31) = W0 := ⟨_, rfl⟩
  have bM := (((Boxed.new (w.alloc (.cells (kc k) 31)) 3 (.int .i64 most)).alloc (.cells #[.slice none 0 0] 53)).alloc (.cells #[.pointer (some ⟨gf, 0, none⟩)] 37)).alloc (.cells (kc k) 31)
  have bL := ((Boxed.new ((w.alloc (.cells (kc k) 31)).alloc (.cells #[.int .i64 most] 3)) 53 (.slice none 0 0)).alloc (.cells #[.pointer (some ⟨gf, 0, none⟩)] 37)).alloc (.cells (kc k) 31)
  have bS := (At.new (((w.alloc (.cells (kc k) 31)).alloc (.cells #[.int .i64 most] 3)).alloc (.cells #[.slice none 0 0] 53)) 37 #[.pointer (some ⟨gf, 0, none⟩)]).alloc (.cells (kc k) 31)
  have bY := At.new ((((w.alloc (.cells (kc k) 31)).alloc (.cells #[.int .i64 most] 3)).alloc (.cells #[.slice none 0 0] 53)).alloc (.cells #[.pointer (some ⟨gf, 0, none⟩)] 37)) 31 (kc k)
  simp only [World.size_alloc] at bM bL bS bY
  have hB0 : Below w.heap.size w (((((w.alloc (.cells (kc k) 31)).alloc (.cells #[.int .i64 most] 3)).alloc (.cells #[.slice none 0 0] 53)).alloc (.cells #[.pointer (some ⟨gf, 0, none⟩)] 37)).alloc (.cells (kc k) 31)) := (((((Below.refl _ w).alloc (Nat.le_refl _) _).alloc (by simp) _).alloc (by simp; omega) _).alloc (by simp; omega) _).alloc (by simp; omega) _
  have hsz0 : (((((w.alloc (.cells (kc k) 31)).alloc (.cells #[.int .i64 most] 3)).alloc (.cells #[.slice none 0 0] 53)).alloc (.cells #[.pointer (some ⟨gf, 0, none⟩)] 37)).alloc (.cells (kc k) 31)).heap.size = w.heap.size + 5 := by simp
  rw [hW0] at bM bL bS bY hB0 hsz0 ⊢
  clear hW0 HK0
  have hgf := h.lt
  have hF0 : At W0 gf 139 (fc c) := h.below hB0 hgf
  generalize hn0 : w.heap.size = n0 at *
  refine wpIn_rangeFunc_ownH rfl (by omega) (gf := 115) (lb := #[.pointer (some ⟨n0 + 1 + 1 + 1, 0, none⟩), .pointer (some ⟨n0 + 1 + 1 + 1 + 1, 0, none⟩)]) rfl trivial (enters_of Try.func115 (by kernel_rfl) rfl)
    (places_stops (5 - 1) (n0 + 1 + 1 + 1) (n0 + 1 + 1 + 1 + 1) n0 gf c k hst hsz hgf W0 (by omega) (by omega) (by omega) bS bY hF0) KpF.t (KpF.b (by omega) (by omega) (by omega)) (Below.refl _ _) (fun _ => rfl)
    (fun pre W => (((((∃ v, Boxed W (n0 + 1 + 1) 53 v ∧ W.ownsRow n0 41 2 v pre.length (pre.flatMap (plCells c k)) ∧ True) ∧ Boxed W (n0 + 1) 3 (.int .i64 most)) ∧ At W (n0 + 1 + 1 + 1) 37 #[.pointer (some ⟨gf, 0, none⟩)]) ∧ At W (n0 + 1 + 1 + 1 + 1) 31 (kc k)) ∧ (most < 0 ∨ (pre.length : Int) ≤ most)) ∧ Below n0 w W)
    (fun c' pre W => ((∃ v, Boxed W (n0 + 1 + 1) 53 v ∧ W.ownsRow n0 41 2 v (pre.length - 1) (pre.dropLast.flatMap (plCells c k)) ∧ True) ∧ (c' = .exit 0 ∧ 1 ≤ pre.length ∧ (pre.length : Int) - 1 = most)) ∧ Below n0 w W)
    (OwnFrom.and (OwnFrom.and (OwnFrom.and (OwnFrom.and (OwnFrom.and (Own.from (holdsRow_own n0 (n0 + 1 + 1) 53 41 2 (fun (pre : List Nat) => pre.length) (fun (pre : List Nat) => pre.flatMap (plCells c k)) (fun _ _ => True)) _) (Own.from (boxed_own _ _ _) _)) (Own.from (at_own _ _ _) _)) (Own.from (at_own _ _ _) _)) (ownFrom_pure _ _)) (ownFrom_below (by omega) (by omega)))
    (fun c' => OwnFrom.and (OwnFrom.and (Own.from (holdsRow_own n0 (n0 + 1 + 1) 53 41 2 (fun (pre : List Nat) => pre.length - 1) (fun (pre : List Nat) => pre.dropLast.flatMap (plCells c k)) (fun _ _ => True)) _) (ownFrom_pure _ _)) (ownFrom_below (by omega) (by omega)))
    ⟨⟨⟨⟨⟨⟨_, bL, World.ownsRow_nil _ _ _ _, trivial⟩, bM⟩, bS⟩, bY⟩, by simp; omega⟩, hB0⟩
    (fun x a' W => ∃ Bx, n0 + 1 + 1 + 1 + 1 < Bx ∧ At W Bx 41 (plCells c k x).toArray ∧ a' = { tmps := #[.pointer (some ⟨gf, 0, none⟩), .agg (kc k), .int .i64 most, undef, .pointer (some ⟨n0, 0, none⟩), .pointer (some ⟨n0 + 1, 0, none⟩), .slice none 0 0, .pointer (some ⟨n0 + 1 + 1, 0, none⟩), .func (.func 115) #[] #[.pointer (some ⟨n0 + 1 + 1 + 1, 0, none⟩), .pointer (some ⟨n0 + 1 + 1 + 1 + 1, 0, none⟩)], .pointer (some ⟨Bx, 0, none⟩), .pointer (some ⟨gf, 0, none⟩), .agg (kc k), .func (.func 115) #[] #[.pointer (some ⟨n0 + 1 + 1 + 1, 0, none⟩), .pointer (some ⟨n0 + 1 + 1 + 1 + 1, 0, none⟩)], .func (.func 115) #[] #[.pointer (some ⟨n0 + 1 + 1 + 1, 0, none⟩), .pointer (some ⟨n0 + 1 + 1 + 1 + 1, 0, none⟩)], .bool false, .func (.func 115) #[] #[.pointer (some ⟨n0 + 1 + 1 + 1, 0, none⟩), .pointer (some ⟨n0 + 1 + 1 + 1 + 1, 0, none⟩)], .agg #[.int .i64 x, .int .i64 (idx c k x)], undef, undef, undef, undef, undef, undef, undef, undef, undef], defers := [] })
    (fun x a' _ X Y row hs hg hr => by obtain ⟨Bx, h1, h2, h3⟩ := hs; exact ⟨Bx, h1, at_own Bx _ _ () X Y row h2 hg (fun r e => (hr r e).2), h3⟩)
    ?assign ?body ?done ?stop
  case assign =>
    rintro l' pre x W K ⟨⟨⟨⟨⟨⟨v, bv, hrow, _⟩, bM1⟩, bS1⟩, bY1⟩, hp⟩, hB1⟩ hK
    simp only [plEnc]
    gi_wp2
    exact hK _ _ ((KeepsOthers.alloc _ _).from _) ⟨(Below.refl n0 W).alloc (by have := bM1.lt; omega) _, Below.heap_alloc W _ _ bS1.lt, Below.heap_alloc W _ _ bY1.lt⟩ ⟨⟨⟨⟨⟨(holdsRow_own n0 (n0 + 1 + 1) 53 41 2 (fun (pre : List Nat) => pre.length) (fun (pre : List Nat) => pre.flatMap (plCells c k)) (fun _ _ => True)).alloc _ ⟨v, bv, hrow, trivial⟩, bM1.alloc _⟩, bS1.alloc _⟩, bY1.alloc _⟩, hp⟩, hB1.alloc (by have := bM1.lt; omega) _⟩ ⟨W.heap.size, bY1.lt, At.new W _ _, rfl⟩
  case body =>
    rintro l' pre x a' W hl ⟨r, hr⟩ ⟨⟨⟨⟨⟨⟨v, bv, hrow, _⟩, bM1⟩, bS1⟩, bY1⟩, hp⟩, hB1⟩ ⟨Bx, hBx, bX, rfl⟩ hlt
    have cM := bM1.cell
    have cL := bv.cell
    have cX0 := bX.cell 0
    have cX1 := bX.cell 1
    simp only [plCells, List.getElem?_toArray, List.getElem?_cons_zero, List.getElem?_cons_succ] at cX0 cX1
    have hsW : n0 + 1 + 1 + 1 + 1 < W.heap.size := bY1.lt
    have e1 : Bx < W.heap.size := bX.lt
    obtain ⟨ad, cap, hv⟩ : ∃ ad cap, v = .slice ad pre.length cap := by
      rcases hrow.2 with ⟨h1, h2⟩ | ⟨g, cap, cur, h1, _⟩
      · exact ⟨none, 0, by rw [h1, h2]⟩
      · exact ⟨_, _, h1⟩
    subst hv
    by_cases hm : (pre.length : Int) = most
    · gi_wp2
      exact ⟨KeepsFrom.refl _ _, ⟨⟨_, bv, by simpa using hrow, trivial⟩, rfl, by simp, by simp; exact hm⟩, hB1⟩
    · have hml : 4097 ≤ maxLen := by decide
      have hpl : pre.length < 4 := by omega
      have hn0W : n0 ≤ W.heap.size := by omega
      gi_wp2_with (gi_at_builtin; refine wpListIn_append_own _ rfl _ _ 53 rfl n0 41 i0 (.agg #[.int .i64 0, .int .i64 0]) 2 16 Try.underlying53 hi hz0 hz1 hz2 rfl (by decide) _ _ _ rfl (hrow.alloc _) ⟨W.heap.size, 0, none⟩ 1 1 (plCells c k x) rfl rfl (cells_new _ _ _) (by simp [plCells, Value.oneCell']) (by omega) (by omega) (by simp; omega) ?_; intro v' w1 hown' hgrow _; obtain ⟨g', cap', rfl⟩ := ownsRow_succ hown'; obtain ⟨hv1, hv2, hr2, hk2, hb2⟩ := bv.appended (by decide) hrow hn0W (by omega) hown' hgrow; have hc1 := hv1.cell; have hf1 := hv1.frozen)
      have bM2 := ((bM1.alloc _).kept hgrow (bM1.not_row (by decide) hrow)).other (B' := n0 + 1 + 1) (by omega) (.slice (some ⟨g', 0, none⟩) (pre.length + 1) cap')
      have bS2 := at_other ((bS1.alloc _).kept' hgrow (bS1.not_row (by decide) hrow)) (B' := n0 + 1 + 1) (by omega) (.slice (some ⟨g', 0, none⟩) (pre.length + 1) cap')
      have bY2 := at_other ((bY1.alloc _).kept' hgrow (bY1.not_row (by decide) hrow)) (B' := n0 + 1 + 1) (by omega) (.slice (some ⟨g', 0, none⟩) (pre.length + 1) cap')
      exact ⟨hk2.from _, ⟨hb2, Eq.trans (show _ = _ from bS2) (Eq.symm (show _ = _ from bS1)), Eq.trans (show _ = _ from bY2) (Eq.symm (show _ = _ from bY1))⟩, ⟨⟨⟨⟨⟨_, hv2, by rw [pl_snoc, List.length_append]; exact hr2, trivial⟩, bM2⟩, bS2⟩, bY2⟩, by simp only [List.length_append, List.length_cons, List.length_nil]; omega⟩, hB1.trans hb2⟩
  case done =>
    rintro D ys W hD rfl ⟨⟨⟨⟨⟨⟨v, bv, hrow, _⟩, bM1⟩, bS1⟩, bY1⟩, hp⟩, hB1⟩ hK
    have hc := bv.cell
    have hcut : cutN most (List.range (plN c k)) = List.range (plN c k) := by
      unfold cutN
      split
      · rfl
      · exact List.take_of_length_le (by omega)
    gi_wp2
    subst hn0
    refine ⟨by simp, .inl ⟨_, _, rfl, run_takeDeferred hK, ?_⟩⟩
    exact ⟨_, results_tmp rfl _ _ _, v, rfl, by rw [hcut]; exact ownsRow_putObj hrow _ hK rfl, hB1.trans (belowK_b (w := w) (Nat.le_refl _) W D _ _ (by omega) hK rfl rfl)⟩
  case stop =>
    rintro D c' pre W hD ⟨q, hq, rfl⟩ ⟨⟨⟨v, bv, hrow, _⟩, rfl, hp1, hp2⟩, hB1⟩ hK
    have hc := bv.cell
    have hcut : cutN most (List.range (plN c k)) = (List.range q).dropLast := by
      obtain ⟨t, ht⟩ := range_prefix hq
      unfold cutN
      rw [if_neg (by omega), ← ht, List.take_append_of_le_length (by omega), List.dropLast_eq_take]
      congr 1
      omega
    gi_wp2
    subst hn0
    refine ⟨by simp, .inl ⟨_, _, rfl, run_takeDeferred hK, ?_⟩⟩
    exact ⟨_, results_tmp rfl _ _ _, v, rfl, by rw [hcut, List.length_dropLast]; exact ownsRow_putObj hrow _ hK rfl, hB1.trans (belowK_b (w := w) (Nat.le_refl _) W D _ _ (by omega) hK rfl rfl)⟩
end Go.Proofs.Ythfgccibiajneaa
