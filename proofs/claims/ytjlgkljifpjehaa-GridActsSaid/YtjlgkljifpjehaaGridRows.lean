/-
  The grid's methods, one contract each, for each type that a grid is made of.
-/
import Derived.Test.YtjlgkljifpjehaaGridEqs
import Derived.WalkSpells
import Derived.WalkLawsBesides
import Derived.Lib.Hide
import Derived.Laws.MakeOwn
import Derived.OwnWalk
import Derived.RangeFuncNested
import Derived.RangeFuncBound
import Derived.RangeFuncCalls
import Derived.RangeFuncLeaves
import Derived.RangeFuncBox
import Derived.Shelf.Abstract
import Derived.Shelf.RegionOpen
import Derived.WalkKit
import Derived.OwnWalkIn
import Derived.TacticsInMore
import Derived.LoopNIn
import Derived.LoopIn
import Derived.Laws.StructEq
namespace Go.Proofs.Ytjlgkljifpjehaa
open Go.RowKit Go.Shelf
attribute [local go_sem] Oper.semAt_some
/-- What a walk is told of a slice of integers that came in: nil, or a row of 'cap' cells, the numbers 'zs'. -/
def IsRow (k : IntKind) (w : World) (a : Option Addr) (len cap : Nat) (zs : List Int) : Prop :=
  (a = none ∧ len = 0 ∧ cap = 0 ∧ zs = []) ∨
  ∃ x, a = some x ∧ len ≤ cap ∧ cap ≤ maxLen ∧ zs.length = cap ∧ (∀ i, i < zs.length → w.cell? (x.add i) = some (.int k (zs.getD i 0))) ∧ ∀ n ∈ zs, (Lit.int k n).wf = true
theorem cell_spot {w : World} {a : Addr} {v : Value} (h : w.cell? a = some v) : a.spot = none ∧ a.block < w.heap.size := by
  refine ⟨?_, World.block_lt_of_cell? _ _ h⟩
  unfold World.cell? at h
  split at h
  · split at h
    · cases h
    · rename_i hs; simpa using hs
  · cases h
theorem ints_of_row {k : IntKind} {w : World} {a : Option Addr} {len cap : Nat} {zs : List Int} (h : IsRow k w a len cap zs) :
    0 < len → ∃ b o, a = some ⟨b, o, none⟩ ∧ b < w.heap.size ∧ ∀ i, i < len → w.cell? ⟨b, o + i, none⟩ = some (.int k (zs.getD i 0)) := by
  intro hpos
  rcases h with ⟨rfl, rfl, rfl, rfl⟩ | ⟨x, rfl, h1, h2, h3, h4, h5⟩
  · omega
  · have h0 := h4 0 (by omega)
    rw [show x.add 0 = x from by simp [Addr.add]] at h0
    obtain ⟨hs, hb⟩ := cell_spot h0
    obtain ⟨b, o, s⟩ := x
    simp only at hs hb
    subst hs
    refine ⟨b, o, rfl, hb, fun i hi => ?_⟩
    have := h4 i (by omega)
    have hadd : (⟨b, o, none⟩ : Addr).add i = ⟨b, o + i, none⟩ := by unfold Addr.add; split <;> simp_all
    rw [hadd] at this
    exact this
theorem tmod_gt (k n : Int) (h : 0 < n) : -n < k.tmod n := by
  have h1 := Int.lt_tmod_of_pos k h
  omega
namespace Gi
theorem ownsRow_below {w w' : World} {base size n : Nat} {e : TypeId} {v : Value} {xs : List Value} (h : w.ownsRow base e size v n xs) (hb : Below w.heap.size w w') : w'.ownsRow base e size v n xs := by
  refine ⟨h.1, ?_⟩
  rcases h.2 with h1 | ⟨g, cap, cur, h1, h2, h3, h4⟩
  · exact .inl h1
  · exact .inr ⟨g, cap, cur, h1, h2, (hb.block g (Array.getElem?_eq_some_iff.1 h3).1).trans h3, h4⟩
theorem flat3 {α : Type} {f : α → List Value} {m : Nat} (hf : ∀ x, (f x).length = m + 1) : ∀ (l : List α) (k j : Nat), j < m + 1 → (l.flatMap f)[k * (m + 1) + j]? = (l[k]?).bind fun x => (f x)[j]?
  | [], k, j, _ => by simp
  | o :: l, 0, j, hj => by
    rw [List.flatMap_cons, List.getElem?_append_left (by rw [hf]; omega)]
    simp
  | o :: l, k + 1, j, hj => by
    have hl := hf o
    have e : (k + 1) * (m + 1) + j = (m + 1) + (k * (m + 1) + j) := by rw [Nat.succ_mul]; omega
    rw [List.flatMap_cons, List.getElem?_append_right (by rw [hl, e]; omega), hl, e, Nat.add_sub_cancel_left, flat3 hf l k j hj, List.getElem?_cons_succ]
/-- What an owned row of items shows. -/
theorem row_cell {w : World} {base sz : Nat} {v : Value} {e : TypeId} {ys : List (Nat × V)} (h : w.ownsRow base e 3 v ys.length (ys.flatMap (item sz))) (k : Nat) (y : Nat × V) (hy : ys[k]? = some y) :
    ∃ g cap, v = .slice (some ⟨g, 0, none⟩) ys.length cap ∧ g < w.heap.size ∧ w.cell? ⟨g, k * 3, none⟩ = some (.int .i64 ((y.1 / sz : Nat) : Int)) ∧ w.cell? ⟨g, k * 3 + 1, none⟩ = some (.int .i64 ((y.1 % sz : Nat) : Int)) ∧ w.cell? ⟨g, k * 3 + 2, none⟩ = some (.int .i64 y.2) := by
  have hk : k < ys.length := (List.getElem?_eq_some_iff.1 hy).1
  rcases h.2 with ⟨_, h0⟩ | ⟨g, cap, cur, h1, _, h3, h4, _, h5, h6⟩
  · omega
  · have hc : ∀ j, j < 3 → w.cell? ⟨g, k * 3 + j, none⟩ = (item sz y)[j]? := by
      intro j hj
      rw [cell_of_row w g _ cur e (0, 0) h3]
      have := flat3 (f := item sz) (m := 2) (fun _ => rfl) ys k j hj
      rw [← h6, hy, List.getElem?_take, if_pos (by omega), Array.getElem?_toList] at this
      exact this
    exact ⟨g, cap, h1, (Array.getElem?_eq_some_iff.1 h3).1, hc 0 (by omega), hc 1 (by omega), hc 2 (by omega)⟩
theorem row_form {w : World} {base size n : Nat} {v : Value} {e : TypeId} {xs : List Value} (h : w.ownsRow base e size v n xs) : ∃ ad cap, v = .slice ad n cap := by
  rcases h.2 with ⟨h1, h2⟩ | ⟨g, cap, cur, h1, _⟩
  · exact ⟨none, 0, by rw [h1, h2]⟩
  · exact ⟨_, _, h1⟩
/-- Each place that is not free holds its own number. -/
def Good (N : Nat) (l : List (Option V)) : Prop := l.length = N ∧ ∀ (j : Nat) (x : V), l[j]? = some (some x) → x = (j : Int)
theorem Good.set {N : Nat} {l : List (Option V)} (h : Good N l) (k : Nat) : Good N (l.set k (some (k : Int))) := by
  refine ⟨by rw [List.length_set]; exact h.1, fun j x hx => ?_⟩
  rw [List.getElem?_set] at hx
  split at hx
  · split at hx
    · rename_i h1 h2; subst h1; simpa using hx.symm
    · cases hx
  · exact h.2 j x hx
theorem Good.new (N : Nat) : Good N (List.replicate N none) := ⟨by simp, fun j x hx => by rw [List.getElem?_replicate] at hx; split at hx <;> simp at hx⟩
/-- Which places are not free, as cells. -/
def marks (l : List (Option V)) : Array Value := (l.map fun o => Value.bool o.isSome).toArray
theorem marks_get (l : List (Option V)) (k : Nat) : (marks l)[k]? = (l[k]?).map fun o => Value.bool o.isSome := by simp [marks]
theorem marks_set (l : List (Option V)) (k : Nat) (x : V) : (marks l).setIfInBounds k (.bool true) = marks (l.set k (some x)) := by
  unfold marks
  rw [List.setIfInBounds_toArray, List.map_set]
  rfl
theorem marks_none (n : Nat) : marks (List.replicate n none) = madeCells #[.bool false] n := by
  apply Array.ext_getElem?
  intro i
  rw [marks_get, List.getElem?_replicate]
  unfold madeCells
  rw [Array.getElem?_map, Array.getElem?_range]
  by_cases h : i < n <;> simp [h, Nat.mod_one]
theorem got_at {l : List (Option V)} {k N : Nat} {x : V} (hk : k < N) (h : l[k]? = some (some x)) : (got l N)[(got l k).length]? = some (k, x) := by
  obtain ⟨t, ht⟩ := got_prefix l (show k + 1 ≤ N from hk)
  rw [← ht, got_some h, List.append_assoc, List.getElem?_append_right (Nat.le_refl _), Nat.sub_self]
  rfl
theorem infoB : (Try.prog.info? 4).map (fun i => (i.zero, i.size, i.bytes)) = some (some (.bool false), 1, 1) := by kernel_rfl
theorem makeB (n : Nat) (hn : n ≤ 4096) (w : World) : (Instr.makeSlice 57 (.int .i64 (n : Int)) (.int .i64 (n : Int))).run Try.prog w = .ok (.slice (some ⟨w.heap.size, 0, none⟩) n n) (w.alloc (.cells (marks (List.replicate n none)) 4)) := by
  obtain ⟨i0, hi, hz0, hz1, hz2⟩ := info_parts infoB
  have := run_make (P := Try.prog) w 57 4 i0 _ Try.underlying57 hi hz0 .i64 .i64 n n (by omega) (by omega) (by rw [hz2]; omega) (by omega)
  rw [hz1, Int.toNat_natCast, Nat.mul_one] at this
  rw [this, marks_none]
  rfl
theorem rem_round (k n : Int) (h1 : 0 < n) (h2 : n ≤ 1000000) : (wrap64 (k.tmod n + n)).tmod n = k % n := by
  have a := Int.tmod_lt_of_pos k h1
  have b := tmod_gt k n h1
  have e : wrap64 (k.tmod n + n) = k.tmod n + n := by unfold wrap64; omega
  rw [e, Int.tmod_eq_emod_of_nonneg (by omega), Int.add_emod_right]
  rw [Int.tmod_eq_emod]
  split
  · simp
  · rw [← Int.eq_natAbs_of_nonneg (by omega)]; simp
set_option maxHeartbeats 400000 in
theorem round_any (k n : Int) (h1 : 0 < n) (h2 : n ≤ 1000000) (w : World) :
    Calls Try.prog 23 #[.int .i64 k, .int .i64 n] w fun e w' => e = .returned (.int .i64 (k % n)) ∧ w' = w := by
  have H := Lib.hid (rem_round k n h1 h2)
  go_enter Try.func23, Try.ntmps23
  go_wp2
  go_ret
  exact ⟨by simp [H.out], rfl⟩
end Gi
end Go.Proofs.Ytjlgkljifpjehaa
