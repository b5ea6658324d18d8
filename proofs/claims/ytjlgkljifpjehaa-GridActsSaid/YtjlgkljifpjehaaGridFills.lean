/-
  The grid's methods, one contract each, for each type that a grid is made of.
-/
import Derived.Test.YtjlgkljifpjehaaGridFillsPlain
import Derived.Test.YtjlgkljifpjehaaGridRows
import Derived.WalkSpells
import Derived.WalkLawsBesides
import Derived.Lib.Hide
import Derived.Laws.MakeOwn
import Derived.OwnWalk
import Derived.RangeFuncNested
import Derived.RangeFuncBound
import Derived.RangeFuncCalls
import Derived.RangeFuncLeaves
import Derived.RangeFuncBox
import Derived.Shelf.Abstract
import Derived.Shelf.RegionOpen
import Derived.WalkKit
import Derived.OwnWalkIn
import Derived.TacticsInMore
import Derived.LoopNIn
import Derived.LoopIn
import Derived.Laws.StructEq
namespace Go.Proofs.Ytjlgkljifpjehaa
open Go.RowKit Go.Shelf
attribute [local go_sem] Oper.semAt_some
namespace G2
/-- The j-th that came is place j. -/
def InOrder {l : List (Option V)} (pre : List (Came l)) : Prop := ∀ (j : Nat) (x : Came l), pre[j]? = some x → x.1.1 = j
theorem inOrder_nil (l : List (Option V)) : InOrder (l := l) [] := fun j x h => by simp at h
theorem fl_last (a b : Nat) (k : Nat) (hk : k < a * b) : (fl (a * b) b (-1) 0)[k]? = some (some (((k / b : Nat) : Int), ((k % b : Nat) : Int))) := by
  rw [fl_get, if_pos hk, if_pos (by left; omega)]
theorem inOrder_snoc {l : List (Option V)} {pre : List (Came l)} {x : Came l} (h : InOrder pre) (hx : x.1.1 = pre.length) : InOrder (pre ++ [x]) := fun j y hy => by
  rw [List.getElem?_append] at hy
  by_cases hj : j < pre.length
  · rw [if_pos hj] at hy; exact h j y hy
  · rw [if_neg hj] at hy
    by_cases h0 : j = pre.length
    · subst h0; simp at hy; subst hy; exact hx
    · rw [List.getElem?_singleton, if_neg (by omega)] at hy; cases hy
theorem got_all2 (a b k : Nat) (hk : k ≤ a * b) : got (fl (a * b) b (-1) 0) k = (List.range k).map fun j => (j, (((j / b : Nat) : Int), ((j % b : Nat) : Int))) := by
  induction k with
  | zero => rfl
  | succ k ih => rw [got_some (fl_last a b k (by omega)), ih (by omega), List.range_succ, List.map_append]; rfl
theorem came_length {a b : Nat} (_ : 1 ≤ b) {ys : List (Came (fl (a * b) b (-1) 0))} (h : ys.map Subtype.val = got (fl (a * b) b (-1) 0) (a * b)) : ys.length = a * b := by
  have := congrArg List.length h
  rw [got_all2 a b _ (Nat.le_refl _)] at this
  simpa using this
theorem came_order {a b k : Nat} (_ : 1 ≤ b) (hk : k ≤ a * b) {ys : List (Came (fl (a * b) b (-1) 0))} (h : ys.map Subtype.val = got (fl (a * b) b (-1) 0) k) : InOrder ys := fun j x hj => by
  have h1 : (ys.map Subtype.val)[j]? = some x.1 := by rw [List.getElem?_map, hj]; rfl
  rw [h, got_all2 a b k hk, List.getElem?_map] at h1
  by_cases hjk : j < k
  · rw [List.getElem?_range hjk] at h1
    simp only [Option.map_some, Option.some.injEq] at h1
    rw [← h1]
  · rw [List.getElem?_eq_none (by simp; omega)] at h1; cases h1
theorem wrap_nat (q : Nat) (h : q ≤ 1000000) : IntKind.i64.wrap (q : Int) = (q : Int) := by rw [IntKind.wrap_i64]; omega
/-- A piece that may not panic. -/
def noPanic (Q : Exit → Go.Act → World → Prop) : Exit → Go.Act → World → Prop
  | .panic _, _, _ => False
  | e, a, w => Q e a w
theorem wp_noPanic {P : Program} {c : Code} {Q : Exit → Go.Act → World → Prop} {a : Go.Act} {w : World} (h : c.wp P (noPanic Q) a w) : c.wp P Q a w :=
  wp_mono h (fun e a w hq => by cases e <;> first | exact hq | exact hq.elim)
theorem noPanic_normal {Q : Exit → Go.Act → World → Prop} {a : Go.Act} {w : World} (h : Q .normal a w) : noPanic Q .normal a w := h
theorem Mod.alloc_drew {M : Nat → Prop} (w : World) (o : Obj) : Mod M w.drew (w.alloc o).drew := ⟨rfl, rfl, rfl, by show w.heap.size ≤ (w.alloc o).heap.size; simp, fun i hi _ => Below.heap_alloc w o i hi⟩
theorem Mod.realloc (w : World) (o o' : Obj) : Mod (fun i => i = w.heap.size) (w.alloc o).drew (w.alloc o').drew := ⟨rfl, rfl, rfl, by show (w.alloc o).heap.size ≤ (w.alloc o').heap.size; simp, fun i hi hm => by
  have h1 : i < (w.alloc o).heap.size := hi
  rw [World.size_alloc] at h1
  exact (Below.heap_alloc w o' i (by omega)).trans (Below.heap_alloc w o i (by omega)).symm⟩
theorem free_one (a b q r : Nat) (_ : 1 ≤ b) (hq : q < a) (hr : r < b) : (spot a b (q : Int) (r : Int) (fl (a * b) b (-1) 0)).isSome = true ∧ cnt (put a b (q : Int) (r : Int) (fl (a * b) b (-1) 0) none) = a * b - 1 ∧
    (spot a b (q : Int) (r : Int) (put a b (q : Int) (r : Int) (fl (a * b) b (-1) 0) none)) = none := by
  have hp : pin a b (q : Int) (r : Int) = true := by simp only [pin, decide_eq_true_eq]; omega
  have hk : q * b + r < a * b := place_lt hq hr
  have h1 := fl_last a b _ hk
  have hs : ((fl (a * b) b (-1) 0)[q * b + r]?).join.isSome = true := by rw [h1]; rfl
  unfold spot put
  rw [hp, if_pos rfl, if_pos rfl, if_pos rfl, Int.toNat_natCast, Int.toNat_natCast]
  refine ⟨hs, ?_, ?_⟩
  · have := cnt_set_none _ _ hs
    rw [cnt_all] at this
    omega
  · rw [List.getElem?_set, if_pos rfl, fl_length, if_pos hk]; rfl
theorem guardA : Try.prog.eqGuardType Try.prog.depth 47 = false := by kernel_rfl
theorem infoInt : ∃ i, Try.prog.info? 3 = some i := info_of_underlying Try.underlying3
theorem cellsInt : Try.prog.cellsOf 3 = 1 := by kernel_rfl
theorem neqA (w : World) (a b c d : Int) : (binOp .neq 47 (.agg #[.int .i64 a, .int .i64 b]) (.agg #[.int .i64 c, .int .i64 d])).run Try.prog w = .ok (.bool (!(a == c && b == d))) w := by
  obtain ⟨i, hi⟩ := infoInt
  rw [run_neq_struct, show 10000 = 9998 + 1 + 1 from rfl, run_equalIn_array w _ _ _ Try.underlying47 hi, cellsInt]
  have h0 := Try.underlying3
  have h1 := fun a b => run_equalIn_int (P := Try.prog) w 9998 3 .i64 .i64 a b h0
  simp [Op.eqItems, go_sem, part, isAgg, List.range_succ, run_underlying h0]
  by_cases h1 : a = c <;> by_cases h2 : b = d <;> simp [h1, h2]
theorem came_parts {a b : Nat} (_ : 1 ≤ b) (x : Came (fl (a * b) b (-1) 0)) : ∃ k q r : Nat, x.1.1 = k ∧ k < a * b ∧ q * b + r = k ∧ (x.1.1 : Int) / (b : Int) = q ∧ (x.1.1 : Int) % (b : Int) = r ∧ x.1.2.1 = q ∧ x.1.2.2 = r := by
  obtain ⟨⟨k, v1, v2⟩, hx⟩ := x
  simp only at hx ⊢
  have hkN : k < a * b := by
    rcases Nat.lt_or_ge k (a * b) with h | h
    · exact h
    · rw [fl_get, if_neg (by omega)] at hx; cases hx
  rw [fl_last a b k hkN] at hx
  simp only [Option.some.injEq, Prod.mk.injEq] at hx
  obtain ⟨rfl, rfl⟩ := hx
  exact ⟨k, k / b, k % b, rfl, hkN, by rw [Nat.mul_comm]; exact Nat.div_add_mod k b, rfl, rfl, rfl, rfl⟩
theorem wr_place (q r b k N : Nat) (h : q * b + r = k) (hk : k < N) (hN : N ≤ 256) : IntKind.i64.wrap ((q : Int) * (b : Int)) = ((q * b : Nat) : Int) ∧ IntKind.i64.wrap (((q * b : Nat) : Int) + (r : Int)) = (k : Int) ∧
    wrap64 ((q : Int) * (b : Int)) = ((q * b : Nat) : Int) ∧ wrap64 (((q * b : Nat) : Int) + (r : Int)) = (k : Int) ∧ wrap64 (wrap64 ((q : Int) * (b : Int)) + (r : Int)) = (k : Int) := by
  rw [← Int.natCast_mul]
  generalize q * b = p at *
  rw [IntKind.wrap_i64, IntKind.wrap_i64]
  unfold wrap64
  omega
theorem at_own' {β : Type} (B : Nat) (t : TypeId) (f : β → Array Value) : Own (fun s W => At W B t (f s)) := fun s X Y row hs hg hrow =>
  (hg.block B (At.lt hs) (fun e' => by obtain ⟨o, ho, hc⟩ := hrow B e'.symm; rw [show X.heap[B]? = _ from hs] at ho; cases ho; cases hc)).trans hs
set_option maxRecDepth 100000 in
set_option maxHeartbeats 4000000 in
theorem fills_in (a b : Nat) (h1 : 1 ≤ a) (h2 : a ≤ 4) (h3 : 1 ≤ b) (h4 : b ≤ 64) (odd : Int) (w : World) :
    Calls Try.prog 5 #[.int .i64 a, .int .i64 b, .int .i64 odd] w fun e w' => e = .returned (.bool true) ∧ Below w.heap.size w w' := by
  have d1 : decide ((a : Int) < 1) = false := by simp; omega
  have d2 : decide (4 < (a : Int)) = false := by simp; omega
  have d3 : decide ((b : Int) < 1) = false := by simp; omega
  have d4 : decide (64 < (b : Int)) = false := by simp; omega
  have hm : a * b ≤ 256 := Nat.mul_le_mul h2 h4
  have hm0 : 1 ≤ a * b := Nat.mul_le_mul h1 h3
  have hx1 : IntKind.i64.wrap ((b : Int) - 1) = (b : Int) - 1 := by rw [IntKind.wrap_i64]; omega
  refine (callsIn_wide (n := 5)).1 ?_
  refine callsIn_of_wp_marks Try.func5 rfl trivial ?_ rfl
  simp only [Try.ntmps5, List.size_toArray, List.length_cons, List.length_nil, Nat.reduceAdd, Nat.reduceSub, Array.replicate_succ, Array.replicate_zero, List.push_toArray, List.append_toArray, List.nil_append, List.cons_append]
  refine wpIn_wide.2 ?_
  go_wp2_with fail
  refine (G2.new_ok a b h1 h2 h3 (by omega) _).mono ?_
  rintro e w1 ⟨rfl, hg, hb⟩
  obtain ⟨W, hW⟩ : ∃ W, W = (w.alloc (.cells #[.int .i64 b] 3)).alloc (.cells #[.bool false] 4) := ⟨_, rfl⟩
  rw [← hW] at hg hb
  rw [← hW]
  have hWs : W.heap.size = w.heap.size + 1 + 1 := by rw [hW]; simp
  have a0 : At W w.heap.size 3 #[.int .i64 b] := by rw [hW]; exact (At.new w _ _).alloc _
  have a1 : At W (w.heap.size + 1) 4 #[.bool false] := by rw [hW]; exact at_new _ _ _ _ (by simp)
  have hbW : Below w.heap.size w W := by rw [hW]; exact (by repeat first | exact Below.refl _ _ | refine Below.drew ?_ | refine Below.alloc ?_ (by simp <;> omega) _)
  obtain ⟨gb, hgb⟩ : ∃ gb, gb = w.heap.size := ⟨_, rfl⟩
  obtain ⟨gr, hgr⟩ : ∃ gr, gr = w.heap.size + 1 := ⟨_, rfl⟩
  obtain ⟨gl, hgl⟩ : ∃ gl, gl = W.heap.size := ⟨_, rfl⟩
  obtain ⟨gh, hgh⟩ : ∃ gh, gh = W.heap.size + 1 := ⟨_, rfl⟩
  have HB1 := Lib.hid (hbW.trans (hb.mono hbW.size))
  have F0 := Lib.hid (a0.below hb a0.lt)
  have F1 := Lib.hid (a1.below hb a1.lt)
  rw [← hgb] at F0
  rw [← hgr] at F1
  rw [← hgh, ← hgl] at hg
  have HG1 := Lib.hid hg
  have O := Lib.hid (show w.heap.size ≤ gb ∧ w.heap.size ≤ gr ∧ w.heap.size ≤ gl ∧ w.heap.size ≤ gh ∧ gb < gr ∧ gr < gl ∧ gl < gh by omega)
  rw [← hgh]
  simp only [← hgb]
  simp only [← hgb] at hgr
  rw [← hgr]
  have hstart := fl_start (a * b) b h3
  have HG1 := Lib.hid (hstart ▸ HG1.out)
  clear hg hgh hgl hgr hgb hWs a0 a1 hbW hb hW hstart
  have e1 := F0.out.lt
  have c1 := F0.out.cell 0
  simp only [List.getElem?_toArray, List.getElem?_cons_zero] at c1
  go_wp2_with fail
  go_loopw [9] (fun i wr => ∃ z : Int, -1 ≤ z ∧ z < b ∧ i = .int .i64 z ∧ Gr wr gh gl a b (fl (a * b) b z 0) ∧ At wr gb 3 #[.int .i64 b] ∧ At wr gr 4 #[.bool false] ∧ Below w.heap.size w wr) (fun i _ => (intOf i + 1).toNat)
  case atStart => exact ⟨(b : Int) - 1, by omega, by omega, rfl, HG1.out, F0.out, F1.out, HB1.out⟩
  case round =>
    obtain ⟨z, hz1, hz2, rfl, hg, hf0, hf1, hb⟩ := hrel
    have HG2 := Lib.hid hg
    have F2 := Lib.hid hf0
    have F3 := Lib.hid hf1
    have HB2 := Lib.hid hb
    clear hg hf0 hf1 hb
    by_cases hlt : 0 ≤ z
    · obtain ⟨i, rfl⟩ : ∃ i : Nat, z = i := ⟨z.toNat, by omega⟩
      have hx2 : IntKind.i64.wrap ((i : Int) - 1) = (i : Int) - 1 := by rw [IntKind.wrap_i64]; omega
      go_wp2_with fail
      go_loopw [10] (fun s ws => ∃ k : Nat, k ≤ a ∧ s = .int .i64 k ∧ Gr ws gh gl a b (fl (a * b) b i k) ∧ At ws gb 3 #[.int .i64 b] ∧ At ws gr 4 #[.bool false] ∧ Below w.heap.size w ws) (fun s _ => a - (intOf s).toNat)
      case atStart => exact ⟨0, Nat.zero_le _, rfl, HG2.out, F2.out, F3.out, HB2.out⟩
      case round =>
        obtain ⟨k, hk, rfl, hg, hf0, hf1, hb⟩ := hrel
        have HG3 := Lib.hid hg
        have F4 := Lib.hid hf0
        have F5 := Lib.hid hf1
        have HB3 := Lib.hid hb
        clear hg hf0 hf1 hb
        by_cases hlt2 : k < a
        · have hfs := Lib.hid (fl_set a b k i hlt2 (by omega))
          have HP := Lib.hid (show pin a b (k : Int) (i : Int) = true by simp only [pin, decide_eq_true_eq]; omega)
          have O2 := Lib.hid (show ¬ (gb = gh ∨ gb = gl) ∧ ¬ (gr = gh ∨ gr = gl) by have := O.out; omega)
          go_wp2_with fail
          refine (G2.set_any gh gl a b _ k i ((k : Int), (i : Int)) _ HG3.out).mono ?_
          rintro e w4 ⟨rfl, hm4, hg4⟩
          rw [HP.out]
          rw [hfs.out] at hg4
          have HM4 := Lib.hid hm4
          have HG4 := Lib.hid hg4
          clear hm4 hg4
          go_wp2_with fail
          go_roundw
          case rel => exact ⟨k + 1, by omega, by go_num, HG4.out, F4.out.mod HM4.out O2.out.1, F5.out.mod HM4.out O2.out.2, HB3.out.trans (mod_below HM4.out HB3.out.size (fun j hj => by have := O.out; omega))⟩
          case measure => simp [intOf]; omega
        · obtain rfl : k = a := by omega
          have hfn := Lib.hid (fl_next k b i h3)
          go_wp2_with fail
          go_roundw
          case rel => exact ⟨(i : Int) - 1, by omega, by omega, by go_num, by rw [← hfn.out]; exact HG3.out, F4.out, F5.out, HB3.out⟩
          case measure => simp [intOf] <;> omega
    · obtain rfl : z = -1 := by omega
      have heq := fun (w : World) (fn : Fn) (fi ca : Array Value) => run_eql_func_nil (P := Try.prog) w 50 fn fi ca Try.underlying50
      go_wp2_with fail
      refine (G2.allv_any _ _).mono ?_
      rintro e w5 ⟨rfl, rfl⟩
      go_wp2_with fail
      have hgl0 := HG2.out.2.1.lt
      have hgh0 := HG2.out.1.lt
      obtain ⟨n0, hn0⟩ : ∃ n0, n0 = wr.heap.size := ⟨_, rfl⟩
      obtain ⟨W0, hW0⟩ : ∃ W0, W0 = (wr.alloc (.cells #[.int .i64 0] 3)).alloc (.cells #[.pointer (some ⟨gh, 0, none⟩)] 44) := ⟨_, rfl⟩
      have hB0 : Below wr.heap.size wr W0 := by rw [hW0]; exact (by repeat first | exact Below.refl _ _ | refine Below.drew ?_ | refine Below.alloc ?_ (by simp <;> omega) _)
      have bN : At W0 n0 3 #[.int .i64 0] := by rw [hW0, hn0]; exact (At.new wr _ _).alloc _
      have bG : At W0 (n0 + 1) 44 #[.pointer (some ⟨gh, 0, none⟩)] := by rw [hW0, hn0]; exact at_new _ _ _ _ (by simp)
      have hs0 : W0.heap.size = n0 + 2 := by rw [hW0, hn0]; simp
      have F6 := Lib.hid (F2.out.below hB0 F2.out.lt)
      have F7 := Lib.hid (F3.out.below hB0 F3.out.lt)
      have HG6 := Lib.hid (HG2.out.below hB0 hgh0 hgl0)
      have HB6 := Lib.hid (HB2.out.trans (hB0.mono HB2.out.size))
      have hwn : w.heap.size ≤ n0 := by rw [hn0]; exact HB2.out.size
      have f2 := F2.out.lt
      have f3 := F3.out.lt
      rw [← hW0]
      simp only [← hn0]
      rw [← hn0] at hgl0 hgh0 f2 f3
      clear hW0 hn0 hB0 HB2 F2 F3 HG2
      have hbG := bG.cell 0
      simp only [List.getElem?_toArray, List.getElem?_cons_zero] at hbG
      have hfin := Lib.hid (fl_last a b)
      refine (wpIn_wide (n := 5)).1 ?_
      refine wpIn_rangeFunc_ownH rfl (by omega) (gf := 52) (lb := #[.pointer (some ⟨n0 + 1, 0, none⟩)]) rfl trivial (enters_of Try.func52 (by kernel_rfl) rfl)
        (G2.all_stops (5 - 1) (n0 + 1) n0 gh gl a b _ h3 hgh0 hgl0 W0 (by omega) (by omega) hbG HG6.out) Gi.Kp.t (Gi.Kp.b (by omega) (by omega)) (Below.refl _ _) (fun _ => rfl)
        (fun pre W => ((InOrder pre ∧ At W n0 3 #[.int .i64 pre.length]) ∧ At W (n0 + 1) 44 #[.pointer (some ⟨gh, 0, none⟩)]) ∧ Below n0 W0 W)
        (fun c pre W => ¬ InOrder pre)
        (OwnFrom.and (OwnFrom.and (OwnFrom.and (ownFrom_pure _ _) (Own.from (at_own' n0 3 (fun (pre : List (Came _)) => #[.int .i64 pre.length])) _)) (Own.from (Gi.at_own _ _ _) _)) (ownFrom_below (by omega) (by omega)))
        (fun c => ownFrom_pure _ _)
        ⟨⟨⟨inOrder_nil _, bN⟩, bG⟩, Below.refl _ _⟩
        (fun x a' W => ∃ Bx By, n0 + 1 < Bx ∧ n0 + 1 < By ∧ Bx ≠ By ∧ At W Bx 23 #[.int .i64 ((x.1.1 : Int) / (b : Int)), .int .i64 ((x.1.1 : Int) % (b : Int))] ∧ At W By 47 #[.int .i64 x.1.2.1, .int .i64 x.1.2.2] ∧ a' = { tmps := #[.int .i64 ↑a, .int .i64 ↑b, .int .i64 odd, undef, .pointer (some ⟨gb, 0, none⟩), undef, .pointer (some ⟨gr, 0, none⟩), .pointer (some ⟨gh, 0, none⟩), .int .i64 0, .int .i64 (-1), u10, .pointer (some ⟨n0, 0, none⟩), .func (.func 52) #[] #[.pointer (some ⟨n0 + 1, 0, none⟩)], .pointer (some ⟨Bx, 0, none⟩), .pointer (some ⟨By, 0, none⟩), undef, undef, undef, undef, .int .i64 ↑a, .bool false, .bool false, .int .i64 ↑a, .bool false, .bool false, .bool false, .int .i64 ↑b, .bool false, .bool false, .bool false, .int .i64 ↑b, .bool false, .bool false, undef, .tuple #[.pointer (some ⟨gh, 0, none⟩), .int .i64 0], .int .i64 ↑a, .int .i64 ↑b, .tuple #[.pointer (some ⟨gh, 0, none⟩), .int .i64 0], .pointer (some ⟨gh, 0, none⟩), .int .i64 0, .int .i64 0, .bool false, .bool false, .pointer (some ⟨gh, 0, none⟩), .bool false, .bool false, .int .i64 ↑b, .int .i64 (↑b - 1), .int .i64 (-1), .bool false, u50, u51, u52, u53, u54, u55, u56, u57, u58, u59, u60, u61, u62, u63, u64, u65, .pointer (some ⟨gh, 0, none⟩), .func (.func 52) #[] #[.pointer (some ⟨n0 + 1, 0, none⟩)], .func (.func 52) #[] #[.pointer (some ⟨n0 + 1, 0, none⟩)], .bool false, .func (.func 52) #[] #[.pointer (some ⟨n0 + 1, 0, none⟩)], .agg #[.int .i64 ((x.1.1 : Int) / (b : Int)), .int .i64 ((x.1.1 : Int) % (b : Int))], .agg #[.int .i64 x.1.2.1, .int .i64 x.1.2.2], undef, undef, undef, undef, undef, undef, undef, undef, undef, undef, undef, undef, undef, undef, undef, undef, undef, undef, undef, undef, undef, undef, undef, undef, undef, undef, undef, undef, undef, undef, undef, undef, undef, undef, undef, undef, undef, undef, undef, undef, undef, undef, undef, undef, undef, undef, undef, undef, undef, undef, undef, undef, undef, undef, undef, undef, undef, undef, undef, undef, undef, undef, undef, undef, undef, undef, undef], defers := [] })
        (fun x a' _ X Y row hs hg hr => by obtain ⟨Bx, By, h1, h2, h3, h4, h5, h6⟩ := hs; exact ⟨Bx, By, h1, h2, h3, Gi.at_own Bx _ _ () X Y row h4 hg (fun r e => (hr r e).2), Gi.at_own By _ _ () X Y row h5 hg (fun r e => (hr r e).2), h6⟩)
        ?assign ?body ?done ?stop
      case assign =>
        rintro l' pre x W K ⟨⟨⟨hp, hN⟩, hG1⟩, hB1⟩ hK
        have e1 := hG1.lt
        simp only [encs]
        gi_wp2
        exact hK _ _ (((KeepsOthers.alloc _ _).trans (KeepsOthers.alloc _ _)).from _) ⟨((Below.refl n0 W).alloc (by omega) _).alloc (by simp; omega) _, (Below.heap_alloc _ _ _ (by simp; omega)).trans (Below.heap_alloc W _ _ hG1.lt)⟩
          ⟨⟨⟨hp, (hN.alloc _).alloc _⟩, (hG1.alloc _).alloc _⟩, (hB1.alloc (by omega) _).alloc (by simp; omega) _⟩ ⟨W.heap.size, W.heap.size + 1, by omega, by omega, by omega, (At.new W _ _).alloc _, at_new _ _ _ _ (by simp), rfl⟩
      case body =>
        rintro l' pre x a' W hl ⟨r0, hr0⟩ ⟨⟨⟨hp, hN⟩, hG1⟩, hB1⟩ ⟨Bx, By, hx1, hx2, hne, hX, hY, rfl⟩ hlt
        obtain ⟨k, q, r, hxk, hkN, hdm, e1, e2, e3, e4⟩ := came_parts h3 x
        simp only [e1, e2, e3, e4] at hX hY ⊢
        have HXK := Lib.hid hxk
        have F8 := Lib.hid (F6.out.below hB1 f2)
        have F9 := Lib.hid (F7.out.below hB1 f3)
        have hI : (q : Int) * (b : Int) + (r : Int) = (k : Int) := by rw [← hdm]; simp
        clear e1 e2 e3 e4 hxk
        have cX0 := hX.cell 0
        have cX1 := hX.cell 1
        have cY0 := hY.cell 0
        have cY1 := hY.cell 1
        have cN := hN.cell 0
        have cb := F8.out.cell 0
        simp only [List.getElem?_toArray, List.getElem?_cons_zero, List.getElem?_cons_succ] at cX0 cX1 cY0 cY1 cN cb
        have fN := hN.frozen 0
        have fr := F9.out.frozen 0
        have hcr := F9.out.cell 0
        simp only [List.getElem?_toArray, List.getElem?_cons_zero] at hcr
        have hpl : pre.length ≤ a * b := by rw [fl_length] at hlt; exact Nat.le_of_lt hlt
        clear hlt
        have HP := Lib.hid hp
        have HS := Lib.hid (And.intro hN (And.intro hG1 hB1))
        clear hp hN hG1 hB1 hfin
        have hn := fun w => neqA w q r q r
        have hgu := guardA
        gi_wp2
        · have hw : (k : Int) = (pre.length : Int) := by assumption
          exact ⟨(KeepsOthers.setCell _ _ _).from _, ⟨(Below.refl n0 W).setCell (p := ⟨n0, 0, none⟩) (Nat.le_refl _) _, Below.heap_setCell _ _ _ _ (by simp)⟩,
            ⟨⟨⟨inOrder_snoc HP.out (by rw [HXK.out]; omega), by simpa using HS.out.1.set 0 (.int .i64 ((pre.length : Int) + 1))⟩, HS.out.2.1.far (by simp) _⟩, HS.out.2.2.setCell (p := ⟨n0, 0, none⟩) (Nat.le_refl _) _⟩⟩
        · have hw : ¬ (k : Int) = (pre.length : Int) := by assumption
          exact ⟨(KeepsOthers.setCell _ _ _).from _, fun hio => hw (by have := hio pre.length x (by simp); rw [HXK.out] at this; omega)⟩
      case done =>
        rintro D ys W hD hys ⟨⟨⟨hp, hN⟩, hG1⟩, hB1⟩ hK
        have hlen : ys.length = a * b := came_length h3 hys
        rw [hlen] at hN
        have F8 := Lib.hid (F6.out.below hB1 f2)
        have F9 := Lib.hid (F7.out.below hB1 f3)
        have HG8 := Lib.hid (HG6.out.below hB1 hgh0 hgl0)
        have cN := hN.cell 0
        have cb := F8.out.cell 0
        simp only [List.getElem?_toArray, List.getElem?_cons_zero] at cN cb
        have ab1 : (1 : Int) ≤ (a : Int) * (b : Int) := by rw [← Int.natCast_mul]; omega
        have ab2 : (a : Int) * (b : Int) ≤ 256 := by rw [← Int.natCast_mul]; omega
        obtain ⟨k, hk⟩ : ∃ k : Nat, odd % ((a : Int) * (b : Int)) = (k : Int) := ⟨(odd % ((a : Int) * (b : Int))).toNat, by rw [Int.toNat_of_nonneg (Int.emod_nonneg _ (by omega))]⟩
        have hkN : k < a * b := by
          have := Int.emod_lt_of_pos odd (show (0 : Int) < (a : Int) * (b : Int) by omega)
          rw [hk, ← Int.natCast_mul] at this
          exact Int.ofNat_lt.1 this
        have hdm := Nat.div_add_mod k b
        have HK := Lib.hid hk
        clear hk
        gi_wp2_with fail
        go_wp2_with fail
        refine (Gi.round_any odd ((a : Int) * (b : Int)) (by omega) (by omega) _).mono ?_
        rintro e w5 ⟨rfl, rfl⟩
        rw [HK.out]
        obtain ⟨q, hq⟩ : ∃ q : Nat, q = k / b := ⟨_, rfl⟩
        obtain ⟨r, hr⟩ : ∃ r : Nat, r = k % b := ⟨_, rfl⟩
        have hx1 : ¬ b = 0 := by omega
        have hqk : q ≤ k := by rw [hq]; exact Nat.div_le_self _ _
        have hqa : q < a := by rw [hq]; exact (Nat.div_lt_iff_lt_mul h3).2 hkN
        have hrb : r < b := by rw [hr]; exact Nat.mod_lt _ h3
        have hx2 : IntKind.i64.wrap ((k : Int) / (b : Int)) = (q : Int) := by rw [← Int.natCast_ediv, ← hq]; exact wrap_nat q (by omega)
        have hx3 : (k : Int).tmod (b : Int) = (r : Int) := by rw [Int.tmod_eq_emod_of_nonneg (Int.natCast_nonneg k), ← Int.natCast_emod, ← hr]
        have HQR := Lib.hid (And.intro hq hr)
        clear hq hr hqk
        have e5 : gb < w5.heap.size := F8.out.lt
        have e5' : ¬ gb = w5.heap.size := by omega
        go_wp2_with fail
        refine wp_noPanic ?_
        refine region_sq (fun i => i = w5.heap.size) [(0, true), (1, true), (2, true), (3, true), (4, true), (5, true), (6, true), (7, false), (8, false)] (by kernel_rfl) (by kernel_rfl) (fun _ _ _ _ _ h => h.elim) ?_
        repeat (first
            | (refine sq_yes rfl (by rfl) (fun w' hM => by ((try replace hM := hM.of_drew); obtain ⟨hR1, hR2, hR3⟩ := hM.rules; clear hM; go_simp; with_reducible rfl)) ?_; simp only [Act.put, List.setIfInBounds_toArray, List.set_cons_zero, List.set_cons_succ])
            | (refine sq_no rfl (by rfl) ?_; simp only [Act.put, List.setIfInBounds_toArray, List.set_cons_zero, List.set_cons_succ]))
        refine sq_do_yes rfl (by rfl) (fun K hK => ?_)
        go_wp2_with fail
        refine ⟨Mod.alloc_drew _ _, ?_⟩
        refine sq_do_yes rfl (by rfl) (fun K hK => ?_)
        go_wp2_with fail
        refine ⟨Mod.realloc _ _ _, ?_⟩
        refine sq_end (noPanic_normal ?_)
        have hP := (At.new w5 23 #[.int .i64 q, .int .i64 r]).drew
        obtain ⟨w6, hw6⟩ : ∃ w6, w6 = (w5.alloc (.cells #[.int .i64 q, .int .i64 r] 23)).drew := ⟨_, rfl⟩
        have hB6 : Below w5.heap.size w5 w6 := by rw [hw6]; exact ((Below.refl _ w5).alloc (Nat.le_refl _) _).drew
        rw [← hw6] at hP
        rw [← hw6]
        have s6 : w6.heap.size = w5.heap.size + 1 := by rw [hw6]; show (w5.alloc _).heap.size = _; simp
        clear hw6
        obtain ⟨g5, hg5⟩ : ∃ g5, g5 = w5.heap.size := ⟨_, rfl⟩
        have N6 := Lib.hid (hN.below hB6 hN.lt)
        have G6 := Lib.hid (HG8.out.below hB6 HG8.out.1.lt HG8.out.2.1.lt)
        have P6 := Lib.hid (hg5 ▸ hP)
        have B6 := Lib.hid (F8.out.below hB6 F8.out.lt)
        have R6 := Lib.hid (F9.out.below hB6 F9.out.lt)
        have hDl : D < w5.heap.size := (Array.getElem?_eq_some_iff.1 hK).1
        have K6 := Lib.hid ((hB6.block D hDl).trans hK)
        have C6 := Lib.hid ((HB6.out.trans (hB1.mono hwn)).trans (hB6.mono (by have := hB1.size; omega)))
        have q1 : g5 < w6.heap.size := by omega
        have q2 : n0 < w6.heap.size := N6.out.lt
        have q3 : gb < w6.heap.size := B6.out.lt
        have q4 : gh < w6.heap.size := G6.out.1.lt
        have q5 : gl < w6.heap.size := G6.out.2.1.lt
        have q6 : n0 < w5.heap.size := hN.lt
        rw [← hg5]
        rw [← hg5] at q6
        clear cN cb
        have c0 := N6.out.cell 0
        have c1 := B6.out.cell 0
        have c2 := P6.out.cell 0
        have c3 := P6.out.cell 1
        simp only [List.getElem?_toArray, List.getElem?_cons_zero, List.getElem?_cons_succ] at c0 c1 c2 c3
        obtain ⟨hs1, hs2, hs3⟩ := free_one a b q r h3 hqa hrb
        have HS1 := Lib.hid hs1
        have HS2 := Lib.hid hs2
        have HS3 := Lib.hid hs3
        have hx4 : IntKind.i64.wrap ((a : Int) * (b : Int)) = ((a * b : Nat) : Int) := by rw [← Int.natCast_mul]; exact wrap_nat _ (by omega)
        have hx5 : IntKind.i64.wrap ((a : Int) * (b : Int) - 1) = ((a * b - 1 : Nat) : Int) := by rw [← Int.natCast_mul, show ((a * b : Nat) : Int) - 1 = ((a * b - 1 : Nat) : Int) by omega]; exact wrap_nat _ (by omega)
        have n1 : ¬ (g5 = gh ∨ g5 = gl) := by omega
        have n2 : ¬ (n0 = gh ∨ n0 = gl) := by omega
        have n3 : ¬ (gb = gh ∨ gb = gl) := by have := O.out; omega
        clear hg5 hB6 hP s6 e5 e5' hs1 hs2 hs3 hN hG1 hB1 hx2 hx3 hdm
        go_wp2_with fail
        refine wp_noPanic ?_
        refine region_sq (fun i => i = gh ∨ i = gl) [(0, true), (1, true), (2, true), (3, true), (4, true), (5, true), (6, true), (8, true), (7, false), (9, true), (10, true), (11, true), (12, true), (13, true), (14, false), (15, true), (16, true), (17, true), (18, true), (20, true), (21, true), (19, false), (22, true), (23, true)] (by kernel_rfl) (by kernel_rfl) (fun _ _ _ _ _ h => h.elim) ?_
        repeat (first
            | (refine sq_yes rfl (by rfl) (fun w' hM => by ((try replace hM := hM.of_drew); obtain ⟨hR1, hR2, hR3⟩ := hM.rules; clear hM; go_simp; with_reducible rfl)) ?_; simp only [Act.put, List.setIfInBounds_toArray, List.set_cons_zero, List.set_cons_succ])
            | (refine sq_no rfl (by rfl) ?_; simp only [Act.put, List.setIfInBounds_toArray, List.set_cons_zero, List.set_cons_succ]))
        refine sq_do_yes rfl (by rfl) (fun K hK => ?_)
        go_wp2_with fail
        refine (G2.len_any gh gl a b _ _ G6.out.drew).mono ?_
        rintro e w7 ⟨rfl, rfl⟩
        rw [cnt_all]
        go_wp2_with fail
        refine ⟨Mod.refl _ _, ?_⟩
        repeat (first
            | (refine sq_yes rfl (by rfl) (fun w' hM => by ((try replace hM := hM.of_drew); obtain ⟨hR1, hR2, hR3⟩ := hM.rules; clear hM; go_simp; with_reducible rfl)) ?_; simp only [Act.put, List.setIfInBounds_toArray, List.set_cons_zero, List.set_cons_succ])
            | (refine sq_no rfl (by rfl) ?_; simp only [Act.put, List.setIfInBounds_toArray, List.set_cons_zero, List.set_cons_succ]))
        refine sq_do_yes rfl (by rfl) (fun K hK => ?_)
        go_wp2_with fail
        refine (G2.free_any gh gl a b _ q r _ G6.out.drew).mono ?_
        rintro e w7 ⟨rfl, hm7, hg7⟩
        rw [HS1.out]
        have HM7 := Lib.hid hm7
        have HG7 := Lib.hid hg7
        have N7 := N6.out.drew.mod hm7 n2
        have c7 := N7.cell 0
        have q7 := N7.lt
        simp only [List.getElem?_toArray, List.getElem?_cons_zero] at c7
        have n4 : ¬ (gr = gh ∨ gr = gl) := by have := O.out; omega
        have n5 : ¬ (D = gh ∨ D = gl) := by omega
        have R7 := Lib.hid (R6.out.drew.mod hm7 n4)
        have K7 := Lib.hid ((hm7.block D (Array.getElem?_eq_some_iff.1 K6.out).1 n5).trans K6.out)
        have C7 := Lib.hid (C6.out.drew.trans (mod_below hm7 C6.out.size (fun j hj => by have := O.out; omega)))
        clear hm7 hg7 N7
        go_wp2_with fail
        refine ⟨HM7.out, ?_⟩
        repeat (first
            | (refine sq_yes rfl (by rfl) (fun w' hM => by ((try replace hM := hM.of_drew); obtain ⟨hR1, hR2, hR3⟩ := hM.rules; clear hM; go_simp; with_reducible rfl)) ?_; simp only [Act.put, List.setIfInBounds_toArray, List.set_cons_zero, List.set_cons_succ])
            | (refine sq_no rfl (by rfl) ?_; simp only [Act.put, List.setIfInBounds_toArray, List.set_cons_zero, List.set_cons_succ]))
        refine sq_do_yes rfl (by rfl) (fun K hK => ?_)
        go_wp2_with fail
        refine (G2.len_any gh gl a b _ _ HG7.out).mono ?_
        rintro e w8 ⟨rfl, rfl⟩
        rw [HS2.out]
        go_wp2_with fail
        refine ⟨Mod.refl _ _, ?_⟩
        repeat (first
            | (refine sq_yes rfl (by rfl) (fun w' hM => by ((try replace hM := hM.of_drew); obtain ⟨hR1, hR2, hR3⟩ := hM.rules; clear hM; go_simp; with_reducible rfl)) ?_; simp only [Act.put, List.setIfInBounds_toArray, List.set_cons_zero, List.set_cons_succ])
            | (refine sq_no rfl (by rfl) ?_; simp only [Act.put, List.setIfInBounds_toArray, List.set_cons_zero, List.set_cons_succ]))
        refine sq_end (noPanic_normal ?_)
        have P8 := P6.out.drew.mod HM7.out n1
        have d2 := P8.cell 0
        have d3 := P8.cell 1
        simp only [List.getElem?_toArray, List.getElem?_cons_zero, List.getElem?_cons_succ] at d2 d3
        clear P8
        go_wp2_with fail
        refine (G2.get_any gh gl a b _ q r _ HG7.out).mono ?_
        rintro e w9 ⟨rfl, hb9⟩
        have HB9 := Lib.hid hb9
        rw [HS3.out]
        simp only [valOf, Option.isSome_none]
        clear hb9
        go_wp2_with fail
        refine (awake_any _).mono ?_
        rintro e w10 ⟨rfl, hb10⟩
        have R9 := R7.out.below HB9.out R7.out.lt
        have K9 := (HB9.out.block D (Array.getElem?_eq_some_iff.1 K7.out).1).trans K7.out
        have R10 := Lib.hid ((R9.alloc _).below hb10 (R9.alloc _).lt)
        have K9' := (Below.heap_alloc w9 (.cells #[.int .i64 0, .int .i64 0] 47) D (Array.getElem?_eq_some_iff.1 K9).1).trans K9
        have K10 := Lib.hid ((hb10.block D (Array.getElem?_eq_some_iff.1 K9').1).trans K9')
        have C9 := C7.out.trans (HB9.out.mono C7.out.size)
        have C10 := Lib.hid ((C9.alloc C9.size _).trans (hb10.mono (C9.alloc C9.size _).size))
        have z0 := R10.out.cell 0
        have z1 := R10.out.frozen 0
        simp only [List.getElem?_toArray, List.getElem?_cons_zero] at z0
        clear hb10 R9 K9 K9' C9
        go_wp2_with fail
        refine ⟨by simp, .inl ⟨_, _, rfl, run_takeDeferred ((KeepsOthers.setCell w10 _ _).same D _ K10.out rfl), ?_⟩⟩
        have hc5 : ((w10.setCell ⟨gr, 0, none⟩ (.bool true)).putObj D (.deferred none)).cell? ⟨gr, 0, none⟩ = some (.bool true) :=
          cell_kept (World.cell?_setCell_same' _ _ _ (by rw [z0]; rfl)) (grownBy_putObj' _ D (.deferred none)) (fun r e => by cases e; exact ⟨_, (KeepsOthers.setCell w10 _ _).same D _ K10.out rfl, rfl⟩)
        refine ⟨.bool true, by simp [results, Try.f5, go_sem, hc5], rfl, ?_⟩
        exact (C10.out.setCell (p := ⟨gr, 0, none⟩) (show w.heap.size ≤ gr by have := O.out; omega) _).trans (belowK_b (w := w) (Nat.le_refl _) _ D _ _ (by have := O.out; omega) ((KeepsOthers.setCell w10 _ _).same D _ K10.out rfl) rfl rfl)
      case stop =>
        rintro D c pre W hD ⟨k, hk, hpre⟩ hx hK
        exact absurd (came_order h3 hk hpre) hx
end G2
end Go.Proofs.Ytjlgkljifpjehaa
