/-
  Texts in one, each behind those that it needs: PoLive, PoEqs, PoFacts.
-/
import Derived.Test.YthfgccibiajneaaBaq
import Derived.RangeFuncBound
import Derived.RangeFuncCalls
import Derived.RangeFuncLeaves
import Derived.RangeFuncBox
import Derived.Shelf.RegionOpen
import Derived.OwnWalkIn
import Derived.TacticsInMore
import Derived.LoopNIn
import Derived.LoopIn
/-
  Live, an iterator; law 18's live: those that are, left off behind so many.
-/
namespace Go.Proofs.Ythfgccibiajneaa
open Go.RowKit Go.Shelf
attribute [local go_sem] Oper.semAt_some
theorem run_equalIn_func_nilP {P : Program} (w : World) (d : Nat) (t : TypeId) {ps rs : Array TypeId} {v : Bool} (fn : Fn) (fi ca : Array Value) (h : P.underlying t = some (.func ps rs v)) :
    (Op.equalIn (d + 1) t (.func fn fi ca) .nilFunc).run P w = .ok false w := by
  simp [Op.equalIn, run_underlying h]
/-- 'f == nil', f a function's value. -/
theorem run_eql_func_nilP {P : Program} (w : World) (t : TypeId) {ps rs : Array TypeId} {v : Bool} (fn : Fn) (fi ca : Array Value) (h : P.underlying t = some (.func ps rs v)) :
    (binOp .eql t (.func fn fi ca) .nilFunc).run P w = .ok (.bool false) w := by
  simp only [binOp]
  simp [Op.equal, Op.maxDepth, run_equalIn_func_nilP w 9999 t fn fi ca h]
/-- A struct of cells, unturned by whatever turns no cells. -/
theorem at_ownP {β : Type} (B : Nat) (t : TypeId) (cs : Array Value) : Own (fun (_ : β) W => At W B t cs) := fun s X Y row hs hg hrow =>
  (hg.block B (At.lt hs) (fun e' => by obtain ⟨o, ho, hc⟩ := hrow B e'.symm; rw [show X.heap[B]? = _ from hs] at ho; cases ho; cases hc)).trans hs
theorem cells_newP (w : World) (cs : Array Value) (t : TypeId) : ∀ j u, cs.toList[j]? = some u → (w.alloc (.cells cs t)).cell? ((⟨w.heap.size, 0, none⟩ : Addr).add j) = some u := by
  intro j u hj
  have := (At.new w t cs).cell j
  rw [Array.getElem?_toList] at hj
  rw [← hj, ← this]
  by_cases h0 : j = 0 <;> simp [Addr.add, h0]
theorem At.keptP {W W' : World} {row : Option Nat} {B : Nat} {t : TypeId} {cs : Array Value} (h : At W B t cs) (hg : W.grownBy W' row) (hne : some B ≠ row) : At W' B t cs := (hg.block B h.lt hne).trans h
theorem At.not_rowP {W : World} {B : Nat} {t e : TypeId} {cs : Array Value} (h : At W B t cs) (hte : t ≠ e) {base size k : Nat} {v : Value} {xs : List Value} (hr : W.ownsRow base e size v k xs) : some B ≠ v.ownBlock := by
  rcases hr.2 with ⟨rfl, _⟩ | ⟨g, cap, cur, rfl, _, hgb, _⟩
  · simp [Value.ownBlock]
  · intro e'
    obtain rfl : B = g := by simpa [Value.ownBlock] using e'
    have := (show W.heap[B]? = _ from h).symm.trans hgb
    simp at this
    exact hte this.2
theorem at_otherP {W : World} {B B' : Nat} {t : TypeId} {cs : Array Value} (h : At W B t cs) (hne : B ≠ B') (u : Value) : At (W.setCell ⟨B', 0, none⟩ u) B t cs := h.far hne u
theorem not_row2P {W : World} {B : Nat} {t e : TypeId} {u : Value} (_ : Boxed W B t u) {base size k : Nat} {v : Value} {xs : List Value} (hr : W.ownsRow base e size v k xs) (hB : B < base) : some B ≠ v.ownBlock := by
  rcases hr.2 with ⟨rfl, _⟩ | ⟨g, cap, cur, rfl, hg, _, _⟩
  · simp [Value.ownBlock]
  · intro e'
    obtain rfl : B = g := by simpa [Value.ownBlock] using e'
    omega
theorem appended2P {W w1 : World} {n₀ b₀ B : Nat} {t e : TypeId} {size : Nat} {v v' : Value} {k m : Nat} {xs ys : List Value} {tmp : Obj}
    (hv : Boxed W B t v) (hte : t ≠ e) (hrow : W.ownsRow b₀ e size v k xs) (hn₀ : n₀ ≤ W.heap.size) (hb₀ : n₀ ≤ b₀) (hB : n₀ ≤ B)
    (hown' : w1.ownsRow b₀ e size v' m ys) (hgrow : (W.alloc tmp).grownBy w1 v.ownBlock) :
    Boxed w1 B t v ∧ Boxed (w1.setCell ⟨B, 0, none⟩ v') B t v' ∧ (w1.setCell ⟨B, 0, none⟩ v').ownsRow b₀ e size v' m ys ∧ KeepsOthers W (w1.setCell ⟨B, 0, none⟩ v') ∧ Below n₀ W (w1.setCell ⟨B, 0, none⟩ v') := by
  have hv1 : Boxed w1 B t v := (hv.alloc tmp).kept hgrow (hv.not_row hte hrow)
  refine ⟨hv1, hv1.set v', hown'.kept (grownBy_setCell' w1 B v') (.inr (hv1.not_row hte hown').symm), ?_, ?_⟩
  · refine ((KeepsOthers.alloc W tmp).trans (KeepsOthers.of_grownBy hgrow fun j o ej hj => ?_)).trans (KeepsOthers.setCell _ _ _)
    rcases (hrow.alloc tmp).2 with ⟨rfl, _⟩ | ⟨g, cap, cur, rfl, _, hgb, _⟩
    · simp [Value.ownBlock] at ej
    · obtain rfl : g = j := by simpa [Value.ownBlock] using ej
      rw [hgb] at hj; cases hj; rfl
  · refine (((Below.refl n₀ W).alloc hn₀ tmp).grown hgrow (by simp; omega) fun j ej => ?_).setCell (p := ⟨B, 0, none⟩) hB v'
    rcases hrow.2 with ⟨rfl, _⟩ | ⟨g, cap, cur, rfl, hb, _, _⟩
    · simp [Value.ownBlock] at ej
    · obtain rfl : g = j := by simpa [Value.ownBlock] using ej
      omega
/-- The live ones of the first so many. -/
def liveTo (vs : List V) (now : Nat) (i : Nat) : List Nat := (List.range i).filter fun v : Nat => liveB vs now (v : Int)
theorem liveTo_yes {vs : List V} {now : Nat} {i : Nat} (h : liveB vs now (i : Int) = true) : liveTo vs now (i + 1) = liveTo vs now i ++ [i] := by
  unfold liveTo; rw [List.range_succ, List.filter_append]; simp [h]
theorem liveTo_no {vs : List V} {now : Nat} {i : Nat} (h : liveB vs now (i : Int) = false) : liveTo vs now (i + 1) = liveTo vs now i := by
  unfold liveTo; rw [List.range_succ, List.filter_append]; simp [h]
theorem liveTo_length (vs : List V) (now : Nat) (i : Nat) : (liveTo vs now i).length ≤ i := by
  unfold liveTo; exact Nat.le_trans (List.length_filter_le _ _) (by simp)
theorem liveTo_prefix (vs : List V) (now : Nat) {k m : Nat} (h : k ≤ m) : liveTo vs now k <+: liveTo vs now m := by
  obtain ⟨d, rfl⟩ := Nat.exists_eq_add_of_le h
  induction d with
  | zero => exact List.prefix_refl _
  | succ d ih =>
    refine (ih (by omega)).trans ?_
    unfold liveTo
    rw [show k + (d + 1) = (k + d) + 1 by omega, List.range_succ, List.filter_append]
    exact List.prefix_append _ _
/-- What is left off behind so many; below 0: never. -/
def cutP (most : Int) (xs : List Nat) : List Nat := if most < 0 then xs else xs.take most.toNat
def lvEnc (i : Nat) : Array Value := #[.int .i64 i]
def KpP (n₀ B1 : Nat) (A B : World) : Prop := Below n₀ A B ∧ B.heap[B1]? = A.heap[B1]?
theorem KpP.t {n₀ B1 : Nat} {A B C : World} (h : KpP n₀ B1 A B) (k : KpP n₀ B1 B C) : KpP n₀ B1 A C := ⟨h.1.trans k.1, k.2.trans h.2⟩
theorem KpP.b {n₀ B1 : Nat} {w : World} (hn : n₀ ≤ w.heap.size) (h1 : B1 < w.heap.size) (W : World) (l : Nat) (o o' : Obj) (hl : w.heap.size ≤ l) (h : W.heap[l]? = some o) (q1 : o.isCells = false) (q2 : o.isWalk = false) : KpP n₀ B1 W (W.putObj l o') :=
  ⟨belowK_b hn W l o o' hl h q1 q2, World.putObj_heap_other (by omega)⟩
theorem KpP.refl (n₀ B1 : Nat) (A : World) : KpP n₀ B1 A A := ⟨Below.refl _ _, rfl⟩
set_option maxRecDepth 100000 in
set_option maxHeartbeats 4000000 in
theorem live1_any {w0 : World} {B p t : Nat} {c : Cf} {vs : List V} {now : Nat} {lv sv : Value} {L : List Mb} {S : List Dp} (m l' B1 : Nat) (hP : Po w0 B p t c vs now lv L sv S) (J Jx : List Nat → World → Prop) (W : World)
    (hW : Below w0.heap.size w0 W)
    (hY : ∀ pre x W1, J pre W1 → pre.length < 4096 → YieldAt Fence.wide (m - 1) Try.prog l' (lvEnc x) W1 fun e W' =>
      (e = .returned (.bool true) ∧ J (pre ++ [x]) W' ∧ KpP w0.heap.size B1 W1 W') ∨ (e = .returned (.bool false) ∧ Jx (pre ++ [x]) W'))
    (hBs : At W B1 57 #[.pointer (some ⟨p, 0, none⟩)]) (h0 : J [] W) :
    CallsIn Fence.wide m Try.prog 119 #[.func (.yield l') #[] #[], .pointer (some ⟨B1, 0, none⟩)] W fun e W' => (∃ v, e = .returned v) ∧
      ((∃ ys, ys = liveTo vs now vs.length ∧ J ys W') ∨ (∃ pre, (∃ q, q ≤ vs.length ∧ pre = liveTo vs now q) ∧ Jx pre W')) := by
  have HP := Lib.hid hP
  have HS := Lib.hid hBs
  have HY := Lib.hid hY
  have HW := Lib.hid hW
  have hbig := hP.big
  obtain ⟨c48, -, -, -, hl⟩ := (hP.below hW).cells
  have c1 := hBs.cell 0
  simp only [List.getElem?_toArray, List.getElem?_cons_zero] at c1
  obtain ⟨N, hN⟩ : ∃ N, N = vs.length := ⟨_, rfl⟩
  rw [← hN] at c48 hbig ⊢
  clear hP hBs hY hW hN
  refine callsIn_of_wp Try.func119 rfl trivial ?_ rfl
  simp only [Try.ntmps119, List.size_toArray, List.length_cons, List.length_nil, Nat.reduceAdd, Nat.reduceSub, Array.replicate_succ, Array.replicate_zero, List.push_toArray, List.append_toArray, List.nil_append, List.cons_append]
  gi_wp2
  gi_loopw [3, 11] (fun _ i wr => ∃ s : Nat, s ≤ N ∧ i = .int .i64 s ∧ J (liveTo vs now s) wr ∧ KpP w0.heap.size B1 W wr) (fun _ i wr => N - (intOf i).toNat)
  case atStart => exact ⟨0, Nat.zero_le _, rfl, h0, KpP.refl _ _ _⟩
  case round =>
    obtain ⟨s, hs, rfl, hj, hk⟩ := hrel
    have HJJ := Lib.hid hj
    have HKP := Lib.hid hk
    clear hj hk c1 c48 hl
    have hAs : At wr B1 57 #[.pointer (some ⟨p, 0, none⟩)] := HKP.out.2.trans HS.out
    have HPr := Lib.hid (HP.out.below (HW.out.trans HKP.out.1))
    have c1 := hAs.cell 0
    simp only [List.getElem?_toArray, List.getElem?_cons_zero] at c1
    clear hAs
    by_cases hlt : s < N
    · have hll : (liveTo vs now s).length < 4096 := Nat.lt_of_le_of_lt (liveTo_length vs now s) (by omega)
      cases hb : liveB vs now (s : Int)
      · have HN := Lib.hid (liveTo_no hb)
        clear hll
        gi_wp2
        refine ⟨trivial, fun h => (by simp [Fence.wide] at h), (callsIn_wide.2 (live_any HPr.out (s : Int))).mono ?_⟩
        rintro e w1 ⟨rfl, hw⟩
        obtain rfl := hw.symm
        rw [hb]
        clear hw
        gi_wp2
        refine ⟨fun _ h => (by cases h), ?_⟩
        gi_wp2
        go_roundw
        case rel => exact ⟨s + 1, by omega, by go_num, by rw [HN.out]; exact HJJ.out, HKP.out⟩
        case measure => simp [intOf]; omega
      · have HN := Lib.hid (liveTo_yes hb)
        obtain ⟨fn, tmps, assign, body, hy, hR⟩ := HY.out _ s _ HJJ.out hll
        simp only [lvEnc] at hy
        have HR := Lib.hid hR
        clear hR hll
        gi_wp2
        refine ⟨trivial, fun h => (by simp [Fence.wide] at h), (callsIn_wide.2 (live_any HPr.out (s : Int))).mono ?_⟩
        rintro e w1 ⟨rfl, hw⟩
        obtain rfl := hw.symm
        rw [hb]
        clear hw
        gi_wp2
        refine ⟨fun h => (by simp [Fence.wide] at h), HR.out.mono ?_⟩
        rintro e W3 (⟨rfl, hJ3, hk3⟩ | ⟨rfl, hJx3⟩)
        · have HJ3 := Lib.hid hJ3
          have HK3 := Lib.hid hk3
          clear hJ3 hk3
          gi_wp2
          go_roundw
          case rel => exact ⟨s + 1, by omega, by go_num, by rw [HN.out]; exact HJ3.out, HKP.out.t HK3.out⟩
          case measure => simp [intOf]; omega
        · have HJ3 := Lib.hid hJx3
          clear hJx3
          gi_wp2
          refine bodyPost_ret (results_none rfl _ _ _) rfl ?_
          exact ⟨⟨_, rfl⟩, .inr ⟨_, ⟨s + 1, by omega, HN.out.symm⟩, HJ3.out⟩⟩
    · obtain rfl : N = s := by omega
      gi_wp2
      go_end0
      exact ⟨⟨_, rfl⟩, .inl ⟨_, rfl, HJJ.out⟩⟩
theorem livev_any (p : Option Addr) (w : World) :
    Calls Try.prog 94 #[.pointer p] w fun e w' => e = .returned (.func (.func 119) #[] #[.pointer (some ⟨w.heap.size, 0, none⟩)]) ∧ w' = w.alloc (.cells #[.pointer p] 57) := by
  go_enter Try.func94, Try.ntmps94
  go_wp2_with fail
  go_ret
  exact ⟨rfl, rfl⟩
theorem live_stops {w0 : World} {B p t : Nat} {c : Cf} {vs : List V} {now : Nat} {lv sv : Value} {L : List Mb} {S : List Dp} (m B1 : Nat) (hP : Po w0 B p t c vs now lv L sv S) (w : World) (hW : Below w0.heap.size w0 w) (hB1 : B1 < w.heap.size)
    (hBs : At w B1 57 #[.pointer (some ⟨p, 0, none⟩)]) :
    SeqStopsK Fence.wide m Try.prog 119 #[.pointer (some ⟨B1, 0, none⟩)] lvEnc (KpP w0.heap.size B1) (fun ys => ys = liveTo vs now vs.length) (fun pre => ∃ q, q ≤ vs.length ∧ pre = liveTo vs now q) 4096 w := fun l' J Jx W hWW _ _ hY h0 =>
  live1_any m l' B1 hP J Jx W (hW.trans (hWW.mono hW.size)) hY (hBs.below hWW hB1) h0
theorem lv_snoc (pre : List Nat) (x : Nat) : i64s ((pre ++ [x]).map fun p : Nat => (p : Int)) = i64s (pre.map fun p : Nat => (p : Int)) ++ [.int .i64 (x : Nat)] := by simp [i64s]
set_option maxRecDepth 100000 in
set_option maxHeartbeats 4000000 in
theorem lives_any {w : World} {B p t : Nat} {c : Cf} {vs : List V} {now : Nat} {lv sv : Value} {L : List Mb} {S : List Dp} (h : Po w B p t c vs now lv L sv S) (most : Int) :
    Calls Try.prog 37 #[.pointer (some ⟨p, 0, none⟩), .int .i64 most] w fun e w' => ∃ v, e = .returned v ∧ OI w' w.heap.size v ((cutP most (liveTo vs now vs.length)).map fun p : Nat => (p : Int)) ∧ Below w.heap.size w w' := by
  obtain ⟨i0, hi, hz0, hz1, hz2⟩ := info_parts infoInt
  have hbig := h.big
  have heq := fun (w : World) (fn : Fn) (fi ca : Array Value) => run_eql_func_nilP (P := Try.prog) w 160 fn fi ca Try.underlying160
  refine (callsIn_wide (n := 5)).1 ?_
  refine callsIn_of_wp_marks Try.func37 rfl trivial ?_ rfl
  simp only [Try.ntmps37, List.size_toArray, List.length_cons, List.length_nil, Nat.reduceAdd, Nat.reduceSub, Array.replicate_succ, Array.replicate_zero, List.push_toArray, List.append_toArray, List.nil_append, List.cons_append]
  gi_wp2_with (refine ⟨trivial, ?_⟩; gi_at_call 94; refine (callsIn_wide.2 (livev_any _ _)).mono ?_; rintro e w' ⟨rfl, rfl⟩)
  obtain ⟨W0, hW0⟩ : ∃ W0, ((w.alloc (.cells #[.int .i64 most] 3)).alloc (.cells #[.slice none 0 0] 28)).alloc (.cells #[.pointer (some ⟨p, 0, none⟩)] 57) = W0 := ⟨_, rfl⟩
  have bM := ((Boxed.new w 3 (.int .i64 most)).alloc (.cells #[.slice none 0 0] 28)).alloc (.cells #[.pointer (some ⟨p, 0, none⟩)] 57)
  have bL := (Boxed.new (w.alloc (.cells #[.int .i64 most] 3)) 28 (.slice none 0 0)).alloc (.cells #[.pointer (some ⟨p, 0, none⟩)] 57)
  have bS := At.new ((w.alloc (.cells #[.int .i64 most] 3)).alloc (.cells #[.slice none 0 0] 28)) 57 #[.pointer (some ⟨p, 0, none⟩)]
  simp only [World.size_alloc] at bL bS
  have hB0 : Below w.heap.size w (((w.alloc (.cells #[.int .i64 most] 3)).alloc (.cells #[.slice none 0 0] 28)).alloc (.cells #[.pointer (some ⟨p, 0, none⟩)] 57)) := (((Below.refl _ w).alloc (Nat.le_refl _) _).alloc (by simp) _).alloc (by simp; omega) _
  have hsz0 : (((w.alloc (.cells #[.int .i64 most] 3)).alloc (.cells #[.slice none 0 0] 28)).alloc (.cells #[.pointer (some ⟨p, 0, none⟩)] 57)).heap.size = w.heap.size + 3 := by simp
  rw [hW0] at bM bL bS hB0 hsz0 ⊢
  clear hW0
  have hstops := live_stops (5 - 1) (w.heap.size + 1 + 1) h W0 hB0 (by omega) bS
  generalize hn0 : w.heap.size = n0 at *
  refine wpIn_rangeFunc_ownH rfl (by omega) (gf := 119) (lb := #[.pointer (some ⟨n0 + 1 + 1, 0, none⟩)]) rfl trivial (enters_of Try.func119 (by kernel_rfl) rfl)
    hstops KpP.t (KpP.b (by omega) (by omega)) (Below.refl _ _) (fun _ => rfl)
    (fun pre W => ((((∃ v, Boxed W (n0 + 1) 28 v ∧ W.ownsRow (n0 + 3) 3 1 v pre.length (i64s (pre.map fun p : Nat => (p : Int))) ∧ True) ∧ Boxed W n0 3 (.int .i64 most)) ∧ At W (n0 + 1 + 1) 57 #[.pointer (some ⟨p, 0, none⟩)]) ∧ (most < 0 ∨ (pre.length : Int) ≤ most)) ∧ Below n0 w W)
    (fun c' pre W => ((∃ v, Boxed W (n0 + 1) 28 v ∧ W.ownsRow (n0 + 3) 3 1 v (pre.length - 1) (i64s (pre.dropLast.map fun p : Nat => (p : Int))) ∧ True) ∧ (c' = .exit 0 ∧ 1 ≤ pre.length ∧ (pre.length : Int) - 1 = most)) ∧ Below n0 w W)
    (OwnFrom.and (OwnFrom.and (OwnFrom.and (OwnFrom.and (Own.from (holdsRow_own (n0 + 3) (n0 + 1) 28 3 1 (fun (pre : List Nat) => pre.length) (fun (pre : List Nat) => i64s (pre.map fun p : Nat => (p : Int))) (fun _ _ => True)) _) (Own.from (boxed_own _ _ _) _)) (Own.from (at_ownP _ _ _) _)) (ownFrom_pure _ _)) (ownFrom_below (by omega) (by omega)))
    (fun c' => OwnFrom.and (OwnFrom.and (Own.from (holdsRow_own (n0 + 3) (n0 + 1) 28 3 1 (fun (pre : List Nat) => pre.length - 1) (fun (pre : List Nat) => i64s (pre.dropLast.map fun p : Nat => (p : Int))) (fun _ _ => True)) _) (ownFrom_pure _ _)) (ownFrom_below (by omega) (by omega)))
    ⟨⟨⟨⟨⟨_, bL, World.ownsRow_nil _ _ _ _, trivial⟩, bM⟩, bS⟩, by simp; omega⟩, hB0⟩
    (fun x a' W => a' = { tmps := #[.pointer (some ⟨p, 0, none⟩), .int .i64 most, undef, .pointer (some ⟨n0, 0, none⟩), .slice none 0 0, .pointer (some ⟨n0 + 1, 0, none⟩), .func (.func 119) #[] #[.pointer (some ⟨n0 + 1 + 1, 0, none⟩)], .int .i64 x, .pointer (some ⟨p, 0, none⟩), .func (.func 119) #[] #[.pointer (some ⟨n0 + 1 + 1, 0, none⟩)], .func (.func 119) #[] #[.pointer (some ⟨n0 + 1 + 1, 0, none⟩)], .bool false, .func (.func 119) #[] #[.pointer (some ⟨n0 + 1 + 1, 0, none⟩)], .int .i64 x, undef, undef, undef, undef, undef, undef, undef, undef, undef], defers := [] })
    (fun x a' _ X Y row hs hg hr => hs)
    ?assign ?body ?done ?stop
  case assign =>
    rintro l' pre x W K ⟨⟨⟨⟨⟨v, bv, hrow, _⟩, bM1⟩, bS1⟩, hp⟩, hB1⟩ hK
    simp only [lvEnc]
    gi_wp2
    exact hK _ _ (KeepsFrom.refl _ _) (KpP.refl _ _ _) ⟨⟨⟨⟨⟨v, bv, hrow, trivial⟩, bM1⟩, bS1⟩, hp⟩, hB1⟩ rfl
  case body =>
    rintro l' pre x a' W hl' ⟨r, hr⟩ ⟨⟨⟨⟨⟨v, bv, hrow, _⟩, bM1⟩, bS1⟩, hp⟩, hB1⟩ rfl hlt
    have cM := bM1.cell
    have cL := bv.cell
    have hsW : n0 + 1 + 1 < W.heap.size := bS1.lt
    obtain ⟨ad, cap, hv⟩ : ∃ ad cap, v = .slice ad pre.length cap := by
      rcases hrow.2 with ⟨h1, h2⟩ | ⟨g, cap, cur, h1, _⟩
      · exact ⟨none, 0, by rw [h1, h2]⟩
      · exact ⟨_, _, h1⟩
    subst hv
    by_cases hm : (pre.length : Int) = most
    · gi_wp2
      exact ⟨KeepsFrom.refl _ _, ⟨⟨_, bv, by simpa using hrow, trivial⟩, rfl, by simp, by simp; exact hm⟩, hB1⟩
    · have hml : 65537 ≤ maxLen := by decide
      have hpl : pre.length < 4096 := by omega
      have hn0W : n0 ≤ W.heap.size := by omega
      have hsz3 : n0 + 3 ≤ W.heap.size := by omega
      gi_wp2_with (gi_at_builtin; refine wpListIn_append_own _ rfl _ _ 28 rfl (n0 + 3) 3 i0 (.int .i64 0) 1 8 Try.underlying28 hi hz0 hz1 hz2 rfl (by decide) _ _ _ rfl (hrow.alloc _) ⟨W.heap.size, 0, none⟩ 1 1 [.int .i64 (x : Nat)] rfl rfl (cells_newP _ _ _) (by simp [Value.oneCell']) (by omega) (by omega) (by simp; omega) ?_; intro v' w1 hown' hgrow _; obtain ⟨g', cap', rfl⟩ := ownsRow_succ hown'; obtain ⟨hv1, hv2, hr2, hk2, hb2⟩ := appended2P bv (by decide) hrow hn0W (by omega) (by omega) hown' hgrow; have hc1 := hv1.cell; have hf1 := hv1.frozen)
      have bM2 := ((bM1.alloc _).kept hgrow (not_row2P bM1 hrow (by omega))).other (B' := n0 + 1) (by omega) (.slice (some ⟨g', 0, none⟩) (pre.length + 1) cap')
      have bS2 := at_otherP ((bS1.alloc _).keptP hgrow (bS1.not_rowP (by decide) hrow)) (B' := n0 + 1) (by omega) (.slice (some ⟨g', 0, none⟩) (pre.length + 1) cap')
      exact ⟨hk2.from _, ⟨hb2, Eq.trans (show _ = _ from bS2) (Eq.symm (show _ = _ from bS1))⟩, ⟨⟨⟨⟨_, hv2, by rw [lv_snoc, List.length_append]; exact hr2, trivial⟩, bM2⟩, bS2⟩, by simp only [List.length_append, List.length_cons, List.length_nil]; omega⟩, hB1.trans hb2⟩
  case done =>
    rintro D ys W hD rfl ⟨⟨⟨⟨⟨v, bv, hrow, _⟩, bM1⟩, bS1⟩, hp⟩, hB1⟩ hK
    have hc := bv.cell
    have hcut : cutP most (liveTo vs now vs.length) = liveTo vs now vs.length := by
      unfold cutP
      split
      · rfl
      · exact List.take_of_length_le (by omega)
    gi_wp2
    subst hn0
    refine ⟨by simp, .inl ⟨_, _, rfl, run_takeDeferred hK, ?_⟩⟩
    exact ⟨_, results_tmp rfl _ _ _, v, rfl, by rw [hcut]; exact OI.base (show OI _ _ _ _ from (by unfold OI; rw [List.length_map]; exact ownsRow_putObj hrow _ hK rfl)) (by omega), hB1.trans (belowK_b (w := w) (Nat.le_refl _) W D _ _ (by omega) hK rfl rfl)⟩
  case stop =>
    rintro D c' pre W hD ⟨q, hq, rfl⟩ ⟨⟨⟨v, bv, hrow, _⟩, rfl, hp1, hp2⟩, hB1⟩ hK
    have hc := bv.cell
    have hcut : cutP most (liveTo vs now vs.length) = (liveTo vs now q).dropLast := by
      obtain ⟨t, ht⟩ := liveTo_prefix vs now hq
      unfold cutP
      rw [if_neg (by omega), ← ht, List.take_append_of_le_length (by omega), List.dropLast_eq_take]
      congr 1
      omega
    gi_wp2
    subst hn0
    refine ⟨by simp, .inl ⟨_, _, rfl, run_takeDeferred hK, ?_⟩⟩
    exact ⟨_, results_tmp rfl _ _ _, v, rfl, by rw [hcut]; exact OI.base (show OI _ _ _ _ from (by unfold OI; rw [List.length_map, List.length_dropLast]; exact ownsRow_putObj hrow _ hK rfl)) (by omega), hB1.trans (belowK_b (w := w) (Nat.le_refl _) W D _ _ (by omega) hK rfl rfl)⟩
end Go.Proofs.Ythfgccibiajneaa

/-
  alike.Dips, alike.Members: two lists held against each other.
-/
namespace Go.Proofs.Ythfgccibiajneaa
open Go.RowKit Go.Shelf
set_option maxRecDepth 100000 in
set_option maxHeartbeats 4000000 in
theorem dips_any (a : Option Addr) (n c : Nat) (l : List Dp) (a2 : Option Addr) (m c2 : Nat) (l2 : List Dp) (w : World) (h : Rd 18 Dp.l w a n l) (h2 : Rd 18 Dp.l w a2 m l2) (hn : n ≤ 4096) (hm : m ≤ 4096) :
    Calls Try.prog 39 #[.slice a n c, .slice a2 m c2] w fun e w' => e = .returned (.bool (decide (l = l2))) ∧ Below w.heap.size w w' := by
  have HI := Lib.hid h
  have HJ := Lib.hid h2
  have hl := h.1
  have hl2 := h2.1
  clear h h2
  by_cases hnm : n = m
  · subst hnm
    have HL := Lib.hid (And.intro hl hl2)
    clear hl hl2
    go_enter Try.func39, Try.ntmps39
    go_wp2_with fail
    go_loopw [5] (fun i wr => ∃ k : Nat, k ≤ n ∧ i = .int .i64 k ∧ l.take k = l2.take k ∧ Below w.heap.size w wr) (fun i _ => n - (intOf i).toNat)
    case atStart => exact ⟨0, Nat.zero_le _, rfl, rfl, Below.refl _ _⟩
    case round =>
      obtain ⟨k, hk, rfl, ht, hb⟩ := hrel
      have HT := Lib.hid ht
      have HB := Lib.hid hb
      clear ht hb
      by_cases hlt : k < n
      · obtain ⟨x, e1⟩ : ∃ x, l[k]? = some x := ⟨_, List.getElem?_eq_getElem (by rw [HL.out.1]; exact hlt)⟩
        obtain ⟨y, e2⟩ : ∃ y, l2[k]? = some y := ⟨_, List.getElem?_eq_getElem (by rw [HL.out.2]; exact hlt)⟩
        obtain ⟨b, o, rfl, hbl, ha, hao⟩ := (HI.out.below HB.out).agg Dp.l_length e1
        obtain ⟨b2, o2, rfl, hbl2, ha2, hao2⟩ := (HJ.out.below HB.out).agg Dp.l_length e2
        rw [show (Dp.l x).toArray = dc x from rfl] at ha
        rw [show (Dp.l y).toArray = dc y from rfl] at ha2
        have hltz : (k : Int) < (n : Int) := by omega
        have E := Lib.hid (And.intro e1 e2)
        clear e1 e2
        by_cases hxy : x = y
        · subst hxy
          go_wp2_with fail
          refine region_sq (fun _ => False) [(0, true), (1, true), (2, true), (3, true), (4, true), (5, true), (6, true), (7, true), (8, true)] (by kernel_rfl) (by kernel_rfl) (fun _ _ d _ _ h => by cases d <;> exact h) ?_
          repeat (first
            | (refine sq_yes rfl (by rfl) (fun w' hM => by ((try replace hM := hM.of_drew); obtain ⟨hR1, hR2, hR3⟩ := hM.rules; have hA := hM.agg; obtain ⟨hA1, hA2⟩ := hA; clear hM; go_simp; with_reducible rfl)) ?_; simp only [Act.put, List.setIfInBounds_toArray, List.set_cons_zero, List.set_cons_succ])
            | (refine sq_no rfl (by rfl) ?_; simp only [Act.put, List.setIfInBounds_toArray, List.set_cons_zero, List.set_cons_succ]))
          refine sq_end ?_
          go_wp2_with fail
          go_roundw
          case rel => exact ⟨k + 1, by omega, by go_num, by rw [List.take_add_one, List.take_add_one, E.out.1, E.out.2, HT.out], HB.out.drew⟩
          case measure => simp [intOf]; omega
        · have hne : decide (x = y) = false := by simpa using hxy
          have HF : Hid (decide (l = l2) = false) := Lib.hid (by
            rw [decide_eq_false_iff_not]
            intro he
            have := E.out.1
            rw [he, E.out.2] at this
            exact hxy (Option.some.inj this).symm)
          go_wp2_with fail
          refine region_sq (fun _ => False) [(0, true), (1, true), (2, true), (3, true), (4, true), (5, true), (6, true), (7, true), (8, true)] (by kernel_rfl) (by kernel_rfl) (fun _ _ d _ _ h => by cases d <;> exact h) ?_
          repeat (first
            | (refine sq_yes rfl (by rfl) (fun w' hM => by ((try replace hM := hM.of_drew); obtain ⟨hR1, hR2, hR3⟩ := hM.rules; have hA := hM.agg; obtain ⟨hA1, hA2⟩ := hA; clear hM; go_simp; with_reducible rfl)) ?_; simp only [Act.put, List.setIfInBounds_toArray, List.set_cons_zero, List.set_cons_succ])
            | (refine sq_no rfl (by rfl) ?_; simp only [Act.put, List.setIfInBounds_toArray, List.set_cons_zero, List.set_cons_succ]))
          refine sq_end ?_
          go_wp2_with fail
          go_ret
          exact ⟨by rw [HF.out]; rfl, HB.out.drew⟩
      · have HE : Hid (decide (l = l2) = true) := Lib.hid (by
          rw [decide_eq_true_iff]
          have := HT.out
          rwa [List.take_of_length_le (by rw [HL.out.1]; omega), List.take_of_length_le (by rw [HL.out.2]; omega)] at this)
        have hltz : ¬ (k : Int) < (n : Int) := by omega
        go_wp2_with fail
        go_ret
        exact ⟨by rw [HE.out]; rfl, HB.out⟩
  · have HF : Hid (decide (l = l2) = false) := Lib.hid (by
      rw [decide_eq_false_iff_not]
      intro he
      rw [he, hl2] at hl
      exact hnm hl.symm)
    have hne : ((n : Int) != (m : Int)) = true := by simp; omega
    clear hl hl2
    go_enter Try.func39, Try.ntmps39
    go_wp2_with fail
    go_ret
    exact ⟨by rw [HF.out]; rfl, Below.refl _ _⟩
/-- A weight that fits a number of the machine. -/
def wOk (x : Mb) : Prop := -9223372036854775808 ≤ x.w ∧ x.w ≤ 9223372036854775807
theorem Mb.inj {a b : Mb} (h : mc a = mc b) : a = b := by
  have h := congrArg Array.toList h
  simp only [mc, Mb.l] at h
  obtain ⟨h1, h2⟩ := List.append_inj h (by rw [Dp.l_length, Dp.l_length])
  obtain ⟨x, p⟩ := a
  obtain ⟨y, q⟩ := b
  have h1 : dc x = dc y := by unfold dc; rw [h1]
  obtain rfl := Dp.inj h1
  simp only [List.cons.injEq, Value.int.injEq, true_and, and_true] at h2
  rw [h2]
instance : DecidableEq Mb := fun a b => if h : a.d = b.d ∧ a.w = b.w then .isTrue (by
  obtain ⟨d, w⟩ := a
  obtain ⟨d', w'⟩ := b
  simp only at h
  obtain ⟨rfl, rfl⟩ := h
  rfl) else .isFalse (fun e => h (by rw [e]; exact ⟨rfl, rfl⟩))
theorem cellsMb : Try.prog.cellsOf 95 = 19 := by kernel_rfl
theorem cellsInt : Try.prog.cellsOf 3 = 1 := by kernel_rfl
theorem key_dipD (d : Dp) (D : Nat) : ∃ l, Try.prog.keyLits (D + 4) 92 d.l = some l := by
  refine kl_struct Try.underlying92 (D + 3) (by rw [Dp.l_length, cellsDp]) (by kernel_rfl) fun f hf => ?_
  simp only [List.mem_cons, List.not_mem_nil, or_false] at hf
  rcases hf with rfl | rfl
  · simp only [cellsA, Dp.l]
    have : ((d.a.l ++ [Value.int .u16 (d.port : Nat)]).drop 0).take 17 = d.a.l := by
      rw [List.drop_zero, List.take_append_of_le_length (by rw [Adr.l_length]; exact Nat.le_refl _), List.take_of_length_le (by rw [Adr.l_length]; exact Nat.le_refl _)]
    rw [this]
    exact key_adr d.a D
  · simp only [cellsU16, Dp.l]
    have : ((d.a.l ++ [Value.int .u16 (d.port : Nat)]).drop 17).take 1 = [.int .u16 (d.port : Nat)] := by
      rw [List.drop_append_of_le_length (by rw [Adr.l_length]; exact Nat.le_refl _), List.drop_of_length_le (by rw [Adr.l_length]; exact Nat.le_refl _)]; rfl
    rw [this]
    exact kl_int Try.underlying29 (D + 2) (wf_u16' d.hp)
theorem key_mb (m : Mb) (hw : wOk m) : KeyV Try.prog 95 (.agg (mc m)) := by
  have h : ∃ l, Try.prog.keyLits (Try.prog.types.size + 1) 95 m.l = some l := by
    obtain ⟨D, hD⟩ : ∃ D, Try.prog.types.size + 1 = D + 5 := ⟨Try.prog.types.size - 4, by have : 4 ≤ Try.prog.types.size := of_decide_eq_true (by kernel_rfl); omega⟩
    rw [hD]
    refine kl_struct Try.underlying95 (D + 4) (by rw [Mb.len, cellsMb]) (by kernel_rfl) fun f hf => ?_
    simp only [List.mem_cons, List.not_mem_nil, or_false] at hf
    rcases hf with rfl | rfl
    · simp only [cellsDp, Mb.l]
      have : ((m.d.l ++ [Value.int .i64 m.w]).drop 0).take 18 = m.d.l := by
        rw [List.drop_zero, List.take_append_of_le_length (by rw [Dp.l_length]; exact Nat.le_refl _), List.take_of_length_le (by rw [Dp.l_length]; exact Nat.le_refl _)]
      rw [this]
      exact key_dipD m.d D
    · simp only [cellsInt, Mb.l]
      have : ((m.d.l ++ [Value.int .i64 m.w]).drop 18).take 1 = [.int .i64 m.w] := by
        rw [List.drop_append_of_le_length (by rw [Dp.l_length]; exact Nat.le_refl _), List.drop_of_length_le (by rw [Dp.l_length]; exact Nat.le_refl _)]; rfl
      rw [this]
      exact kl_int Try.underlying3 (D + 3) (by unfold wOk at hw; simp [Lit.wf, IntKind.min, IntKind.max, IntKind.signed, IntKind.bits]; omega)
  obtain ⟨l, hl⟩ := h
  refine ⟨.string (keyBytes l), ?_⟩
  unfold Go.keyOf
  have e1 : Try.prog.keyType 95 = true := by kernel_rfl
  have e2 : (Value.agg (mc m)).formed Try.prog 95 = true := by
    simp only [Value.formed, Try.underlying95, mc_size, cellsMb]; rfl
  rw [Try.underlying95]
  simp only [e1, e2, Bool.and_self, if_true]
  rw [show (Value.agg (mc m)).cells.toList = m.l by simp [Value.cells, mc], hl]; rfl
theorem mbLaw : WideMaps.KeyLaw Try.prog 95 := deep_law_laid laidD (m := 6) (by omega) (of_decide_eq_true (by kernel_rfl)) (by kernel_rfl) (by kernel_rfl)
theorem mbKey6 : Try.prog.keyTypeAt 6 95 = true := by kernel_rfl
/-- Two members set side by side. -/
theorem eqMb (a b : Mb) (hwa : wOk a) (hwb : wOk b) (w : World) : (Op.equalIn 10000 95 (.agg (mc a)) (.agg (mc b))).run Try.prog w = .ok (decide (a = b)) w := by
  obtain ⟨la, ha⟩ := key_mb a hwa
  obtain ⟨lb, hb⟩ := key_mb b hwb
  obtain ⟨r, hr, hi⟩ := run_equal_deep (P := Try.prog) w (m := 6) (by omega) mbKey6 (by kernel_rfl) ha hb
  have e : r = decide (a = b) := by
    rw [Bool.eq_iff_iff, hi, decide_eq_true_iff]
    constructor
    · rintro rfl
      have := mbLaw.inj ha hb
      simp only [Value.agg.injEq] at this
      exact Mb.inj this
    · rintro rfl
      rw [ha] at hb
      exact Option.some.inj hb
  rw [← e]
  exact hr
theorem mb_guard : Try.prog.eqGuardType Try.prog.depth 95 = false := by kernel_rfl
attribute [local go_sem] mb_guard
set_option maxRecDepth 100000 in
set_option maxHeartbeats 4000000 in
theorem members_any (a : Option Addr) (n c : Nat) (l : List Mb) (a2 : Option Addr) (m c2 : Nat) (l2 : List Mb) (w : World) (h : Rd 19 Mb.l w a n l) (h2 : Rd 19 Mb.l w a2 m l2) (hn : n ≤ 4096) (hm : m ≤ 4096) (hw : ∀ x ∈ l, wOk x) (hw2 : ∀ x ∈ l2, wOk x) :
    Calls Try.prog 43 #[.slice a n c, .slice a2 m c2] w fun e w' => e = .returned (.bool (decide (l = l2))) ∧ Below w.heap.size w w' := by
  have HI := Lib.hid h
  have HJ := Lib.hid h2
  have HW := Lib.hid (And.intro hw hw2)
  have hl := h.1
  have hl2 := h2.1
  clear h h2 hw hw2
  by_cases hnm : n = m
  · subst hnm
    have HL := Lib.hid (And.intro hl hl2)
    clear hl hl2
    go_enter Try.func43, Try.ntmps43
    go_wp2_with fail
    go_loopw [5] (fun i wr => ∃ k : Nat, k ≤ n ∧ i = .int .i64 k ∧ l.take k = l2.take k ∧ Below w.heap.size w wr) (fun i _ => n - (intOf i).toNat)
    case atStart => exact ⟨0, Nat.zero_le _, rfl, rfl, Below.refl _ _⟩
    case round =>
      obtain ⟨k, hk, rfl, ht, hb⟩ := hrel
      have HT := Lib.hid ht
      have HB := Lib.hid hb
      clear ht hb
      by_cases hlt : k < n
      · obtain ⟨x, e1⟩ : ∃ x, l[k]? = some x := ⟨_, List.getElem?_eq_getElem (by rw [HL.out.1]; exact hlt)⟩
        obtain ⟨y, e2⟩ : ∃ y, l2[k]? = some y := ⟨_, List.getElem?_eq_getElem (by rw [HL.out.2]; exact hlt)⟩
        obtain ⟨b, o, rfl, hbl, ha, hao⟩ := (HI.out.below HB.out).agg Mb.len e1
        obtain ⟨b2, o2, rfl, hbl2, ha2, hao2⟩ := (HJ.out.below HB.out).agg Mb.len e2
        rw [show (Mb.l x).toArray = mc x from rfl] at ha
        rw [show (Mb.l y).toArray = mc y from rfl] at ha2
        have hltz : (k : Int) < (n : Int) := by omega
        have E := Lib.hid (And.intro e1 e2)
        have hq := eqMb x y (HW.out.1 x (List.mem_of_getElem? e1)) (HW.out.2 y (List.mem_of_getElem? e2))
        clear e1 e2
        by_cases hxy : x = y
        · subst hxy
          have hne : decide (x = x) = true := by simp
          go_wp2_with fail
          refine region_sq (fun _ => False) [(0, true), (1, true), (2, true), (3, true), (4, true), (5, true), (6, true), (7, true), (8, true)] (by kernel_rfl) (by kernel_rfl) (fun _ _ d _ _ h => by cases d <;> exact h) ?_
          repeat (first
            | (refine sq_yes rfl (by rfl) (fun w' hM => by ((try replace hM := hM.of_drew); obtain ⟨hR1, hR2, hR3⟩ := hM.rules; have hA := hM.agg; obtain ⟨hA1, hA2⟩ := hA; clear hM; go_simp; with_reducible rfl)) ?_; simp only [Act.put, List.setIfInBounds_toArray, List.set_cons_zero, List.set_cons_succ])
            | (refine sq_no rfl (by rfl) ?_; simp only [Act.put, List.setIfInBounds_toArray, List.set_cons_zero, List.set_cons_succ]))
          refine sq_end ?_
          go_wp2_with fail
          go_roundw
          case rel => exact ⟨k + 1, by omega, by go_num, by rw [List.take_add_one, List.take_add_one, E.out.1, E.out.2, HT.out], HB.out.drew⟩
          case measure => simp [intOf]; omega
        · have hne : decide (x = y) = false := by simpa using hxy
          have HF : Hid (decide (l = l2) = false) := Lib.hid (by
            rw [decide_eq_false_iff_not]
            intro he
            have := E.out.1
            rw [he, E.out.2] at this
            exact hxy (Option.some.inj this).symm)
          go_wp2_with fail
          refine region_sq (fun _ => False) [(0, true), (1, true), (2, true), (3, true), (4, true), (5, true), (6, true), (7, true), (8, true)] (by kernel_rfl) (by kernel_rfl) (fun _ _ d _ _ h => by cases d <;> exact h) ?_
          repeat (first
            | (refine sq_yes rfl (by rfl) (fun w' hM => by ((try replace hM := hM.of_drew); obtain ⟨hR1, hR2, hR3⟩ := hM.rules; have hA := hM.agg; obtain ⟨hA1, hA2⟩ := hA; clear hM; go_simp; with_reducible rfl)) ?_; simp only [Act.put, List.setIfInBounds_toArray, List.set_cons_zero, List.set_cons_succ])
            | (refine sq_no rfl (by rfl) ?_; simp only [Act.put, List.setIfInBounds_toArray, List.set_cons_zero, List.set_cons_succ]))
          refine sq_end ?_
          go_wp2_with fail
          go_ret
          exact ⟨by rw [HF.out]; rfl, HB.out.drew⟩
      · have HE : Hid (decide (l = l2) = true) := Lib.hid (by
          rw [decide_eq_true_iff]
          have := HT.out
          rwa [List.take_of_length_le (by rw [HL.out.1]; omega), List.take_of_length_le (by rw [HL.out.2]; omega)] at this)
        have hltz : ¬ (k : Int) < (n : Int) := by omega
        go_wp2_with fail
        go_ret
        exact ⟨by rw [HE.out]; rfl, HB.out⟩
  · have HF : Hid (decide (l = l2) = false) := Lib.hid (by
      rw [decide_eq_false_iff_not]
      intro he
      rw [he, hl2] at hl
      exact hnm hl.symm)
    have hne : ((n : Int) != (m : Int)) = true := by simp; omega
    clear hl hl2
    go_enter Try.func43, Try.ntmps43
    go_wp2_with fail
    go_ret
    exact ⟨by rw [HF.out]; rfl, Below.refl _ _⟩
end Go.Proofs.Ythfgccibiajneaa

/-
  Small facts on pools: the statements' members may be; which version comes next; configurations with one number turned.
-/
namespace Go.Proofs.Ythfgccibiajneaa
open Go.RowKit Go.Shelf
theorem mGo_of : ∀ (L : List Mb) (met : List Dp), (∀ x ∈ L, vld x.d.a = true ∧ 1 ≤ x.w ∧ x.w ≤ 16 ∧ x.d ∉ met) → L.Pairwise (fun x y => x.d ≠ y.d) → mGo met L = true
  | [], _, _, _ => rfl
  | x :: r, met, h, hp => by
    obtain ⟨h1, h2, h3, h4⟩ := h x (by simp)
    rw [List.pairwise_cons] at hp
    have ih := mGo_of r (met ++ [x.d]) (fun y hy => by
      obtain ⟨g1, g2, g3, g4⟩ := h y (by simp [hy])
      refine ⟨g1, g2, g3, fun hm => ?_⟩
      rcases List.mem_append.1 hm with hm | hm
      · exact g4 hm
      · exact hp.1 y hy (List.mem_singleton.1 hm).symm) hp.2
    unfold mGo mStep
    rw [h1, decide_eq_false h4, decide_eq_true h2, decide_eq_true h3, ih]; rfl
theorem adp_vld (n : Nat) : vld (adp n).a = true := rfl
theorem adp_inj {m n : Nat} (hm : m < 200) (hn : n < 200) (h : adp m = adp n) : m = n := by
  have h2 := congrArg (fun d : Dp => d.a.b) h
  simp only [adp, List.cons.injEq, and_true, true_and] at h2
  omega
theorem som_len (f n : Int) : (som f n).length = (n % 6).toNat := by simp [som]
theorem som_w (f n : Int) : ∀ x ∈ som f n, 1 ≤ x.w ∧ x.w ≤ 16 := by
  intro x hx
  obtain ⟨i, _, rfl⟩ := List.mem_map.1 hx
  simp only
  omega
theorem som_ok (f n : Int) : mOk (som f n) = true := by
  have h5 : (f % 5).toNat < 5 := by omega
  have h6 : (n % 6).toNat < 6 := by omega
  unfold mOk
  rw [som_len, decide_eq_true (by omega), Bool.true_and]
  refine mGo_of _ _ (fun x hx => ?_) ?_
  · obtain ⟨i, _, rfl⟩ := List.mem_map.1 hx
    exact ⟨adp_vld _, by simp only; omega, by simp only; omega, by simp⟩
  · unfold som
    rw [List.pairwise_map]
    refine List.Pairwise.imp_of_mem (fun ha hb hab => ?_) (List.pairwise_lt_range (n := (n % 6).toNat))
    have ha := List.mem_range.1 ha
    have hb := List.mem_range.1 hb
    intro he
    have := adp_inj (by omega) (by omega) he
    omega
theorem mOk_nil : mOk [] = true := rfl
theorem wOk_of {x : Mb} (h : 1 ≤ x.w ∧ x.w ≤ 16) : wOk x := ⟨by omega, by omega⟩
def Cf.setV (c : Cf) (v : Int) : Cf := { c with versions := v }
def Cf.setS (c : Cf) (v : Int) : Cf := { c with slots := v }
theorem cc_setV (c : Cf) (v : Int) : (cc c).setIfInBounds 6 (.int .i64 v) = cc (c.setV v) := by
  unfold cc
  rw [List.setIfInBounds_toArray]
  congr 1
theorem cc_setS (c : Cf) (v : Int) : (cc c).setIfInBounds 5 (.int .i64 v) = cc (c.setS v) := by
  unfold cc
  rw [List.setIfInBounds_toArray]
  congr 1
/-- A row of integers that was laid. -/
theorem Ints.at {w : World} {g : Nat} {t : TypeId} {l : List Int} (h : At w g t (i64s l).toArray) : Ints w (some ⟨g, 0, none⟩) l.length l := by
  refine ⟨rfl, fun _ => ⟨g, 0, rfl, h.lt, fun i hi => ?_⟩⟩
  rw [Nat.zero_add, h.cell]
  simp [i64s, List.getD_eq_getElem?_getD, List.getElem?_eq_getElem hi]
variable {w w' w0 : World} {B p t : Nat} {c : Cf} {vs : List V} {now : Nat} {lv sv : Value} {L : List Mb} {S : List Dp}
theorem Md.bel (h : Po w B p t c vs now lv L sv S) (hB : w0.heap.size ≤ B) (hb : Below w0.heap.size w0 w) (hm : Md p t w w') : Below w0.heap.size w0 w' :=
  hb.trans (mod_below hm hb.size (fun i hi => by
    rcases hi with rfl | rfl
    · exact Nat.le_trans hB h.bp
    · exact Nat.le_trans hB h.bt))
theorem first_is {f : Nat → Bool} {v k : Nat} (h1 : ∀ i, i < v → f i = true) (h2 : f k = false) (h3 : f v = false) (h4 : ∀ i, i < k → f i = true) : v = k := by
  rcases Nat.lt_trichotomy v k with h | h | h
  · rw [h4 v h] at h3; cases h3
  · exact h
  · rw [h1 k h] at h2; cases h2
/-- Where one is free: the first one is made anew. -/
theorem reserve_at (am : Option Addr) (nm cm B2 n k : Nat) (M : List Mb) (h : Po w B p t c vs now lv L sv S) (hM : Sl 19 Mb.l 95 w B2 (.slice am nm cm) M) (hok : mOk M = true) (hn : c.slots = n) (h1 : 1 ≤ n) (h2 : n ≤ 64) (hS : S.length = 0 ∨ S.length = n)
    (hk : k < vs.length) (hk1 : ∀ i : Nat, i < k → liveB vs now i = true) (hk2 : liveB vs now k = false) :
    Calls Try.prog 36 #[.pointer (some ⟨p, 0, none⟩), .slice am nm cm] w fun e w' => e = .returned (.tuple #[.int .i64 (k : Nat), .int .i64 0]) ∧ ∃ lv' sv', Po w' B p t c (vs.set k ⟨sv', fillR S M n, 0, true⟩) now lv' M sv' (fillR S M n) ∧ Md p t w w' := by
  refine (reserve_any am nm cm B2 n M h hM hok hn h1 h2 hS).mono ?_
  rintro e w' ⟨v, hv, ha, ⟨hl, _, _⟩ | ⟨hl, hnl, he, hr⟩⟩
  · have := ha k (by omega)
    rw [hk2] at this
    cases this
  · obtain rfl := first_is (f := fun i : Nat => liveB vs now (i : Int)) ha hk2 hnl hk1
    exact ⟨he, hr⟩
/-- Where none is free. -/
theorem reserve_full (am : Option Addr) (nm cm B2 n : Nat) (M : List Mb) (h : Po w B p t c vs now lv L sv S) (hM : Sl 19 Mb.l 95 w B2 (.slice am nm cm) M) (hok : mOk M = true) (hn : c.slots = n) (h1 : 1 ≤ n) (h2 : n ≤ 64) (hS : S.length = 0 ∨ S.length = n)
    (hk1 : ∀ i : Nat, i < vs.length → liveB vs now i = true) :
    Calls Try.prog 36 #[.pointer (some ⟨p, 0, none⟩), .slice am nm cm] w fun e w' => e = .returned (.tuple #[.int .i64 0, .int .i64 3]) ∧ Below w.heap.size w w' := by
  refine (reserve_any am nm cm B2 n M h hM hok hn h1 h2 hS).mono ?_
  rintro e w' ⟨v, hv, ha, ⟨_, he, hb⟩ | ⟨hl, hnl, _, _⟩⟩
  · exact ⟨he, hb⟩
  · rw [hk1 v hl] at hnl; cases hnl
end Go.Proofs.Ythfgccibiajneaa
