/-
  The grid's methods, one contract each, for each type that a grid is made of.
-/
import Derived.Test.YtjlgkljifpjehaaGridNew
import Derived.WalkSpells
import Derived.WalkLawsBesides
import Derived.Lib.Hide
import Derived.Laws.MakeOwn
import Derived.OwnWalk
namespace Go.Proofs.Ytjlgkljifpjehaa
open Go.RowKit

namespace G2
set_option maxHeartbeats 1000000 in
theorem in_any (gh : Nat) (st sz n : Nat) (sl : Value) (s i : Int) (w : World) (h : At w gh 102 #[.int .i64 st, .int .i64 sz, sl, .int .i64 n]) :
    Calls Try.prog 60 #[.pointer (some ⟨gh, 0, none⟩), .agg #[.int .i64 s, .int .i64 i]] w fun e w' => e = .returned (.bool (pin st sz s i)) ∧ Below w.heap.size w w' := by
  have hl := h.lt
  have hl' : gh < w.heap.size + 1 := by omega
  have h0 := h.cell 0
  have h1 := h.cell 1
  simp only [List.getElem?_toArray, List.getElem?_cons_zero, List.getElem?_cons_succ] at h0 h1
  clear h
  have hcase : (∃ β, β = pin st sz s i ∧ ((decide ((0 : Int) ≤ s) = false ∧ β = false) ∨ (0 ≤ s ∧ decide (s < (st : Int)) = false ∧ β = false) ∨ (0 ≤ s ∧ s < st ∧ decide (0 ≤ i) = false ∧ β = false) ∨ (0 ≤ s ∧ s < st ∧ 0 ≤ i ∧ decide (i < (sz : Int)) = false ∧ β = false) ∨ (0 ≤ s ∧ s < st ∧ 0 ≤ i ∧ i < sz ∧ β = true))) := by
    refine ⟨_, rfl, ?_⟩
    simp only [decide_eq_false_iff_not, pin, decide_eq_true_eq]
    omega
  obtain ⟨β, hβ, hcase⟩ := hcase
  have HP := Lib.hid hβ
  clear hβ
  rcases hcase with ⟨c1, rfl⟩ | ⟨c1, c2, rfl⟩ | ⟨c1, c2, c3, rfl⟩ | ⟨c1, c2, c3, c4, rfl⟩ | ⟨c1, c2, c3, c4, rfl⟩ <;>
  · go_enter Try.func60, Try.ntmps60
    go_wp2_with fail
    refine region_sq (fun _ => False) [(0, true), (1, true), (2, true), (3, true), (4, true), (5, true), (6, true), (7, true), (8, true), (9, true), (10, true), (11, true), (12, true), (13, true), (14, true), (15, true), (16, true), (17, true), (18, true), (19, true), (20, true), (21, true), (22, true), (23, true), (24, true), (25, true), (26, true), (27, true), (28, true), (29, true), (30, true)] (by kernel_rfl) (by kernel_rfl) (fun _ _ d _ _ h => by cases d <;> exact h) ?_
    repeat (first
        | (refine sq_yes rfl (by rfl) (fun w' hM => by ((try replace hM := hM.of_drew); obtain ⟨hR1, hR2, hR3⟩ := hM.rules; clear hM; go_simp; with_reducible rfl)) ?_; simp only [Act.put, List.setIfInBounds_toArray, List.set_cons_zero, List.set_cons_succ])
        | (refine sq_no rfl (by rfl) ?_; simp only [Act.put, List.setIfInBounds_toArray, List.set_cons_zero, List.set_cons_succ]))
    refine sq_end ?_
    go_wp2_with fail
    go_ret
    exact ⟨by rw [← HP.out]; rfl, ((Below.refl _ _).alloc (Nat.le_refl _) _).drew⟩
end G2

namespace G2
set_option maxHeartbeats 2000000 in
theorem at_any (gh gl : Nat) (st sz n : Nat) (hst : st ≤ 4) (hsz : sz ≤ 1024) (s i : Int) (w : World) (h : At w gh 102 #[.int .i64 st, .int .i64 sz, .slice (some ⟨gl, 0, none⟩) (st * sz) (st * sz), .int .i64 n]) (hgl : gl < w.heap.size) :
    Calls Try.prog 51 #[.pointer (some ⟨gh, 0, none⟩), .agg #[.int .i64 s, .int .i64 i]] w fun e w' => e = .returned (if pin st sz s i then .pointer (some ⟨gl, (s.toNat * sz + i.toNat) * 3, none⟩) else .pointer none) ∧ Below w.heap.size w w' := by
  have hl := h.lt
  have H := Lib.hid h
  have h0 := h.cell 1
  have h1 := h.cell 2
  simp only [List.getElem?_toArray, List.getElem?_cons_zero, List.getElem?_cons_succ] at h0 h1
  clear h
  cases hp : pin st sz s i
  · go_enter Try.func51, Try.ntmps51
    go_wp2_with fail
    refine (in_any gh st sz n _ s i _ (H.out.alloc _)).mono ?_
    rintro e w1 ⟨rfl, hw1⟩
    rw [hp]
    go_wp2_with fail
    go_ret
    exact ⟨by simp, step_below (by repeat first | exact Below.refl _ _ | refine Below.drew ?_ | refine Below.alloc ?_ (by simp <;> omega) _) hw1⟩
  · simp only [pin, decide_eq_true_eq] at hp
    obtain ⟨p1, p2, p3, p4⟩ := hp
    obtain ⟨a, rfl⟩ : ∃ a : Nat, s = a := ⟨s.toNat, by omega⟩
    obtain ⟨b, rfl⟩ : ∃ b : Nat, i = b := ⟨i.toNat, by omega⟩
    have hp : pin st sz a b = true := by simp only [pin, decide_eq_true_eq]; omega
    rw [if_pos rfl, Int.toNat_natCast, Int.toNat_natCast]
    have hk : a * sz + b < st * sz := place_lt (by omega) (by omega)
    have hm : st * sz ≤ 4096 := place_le hst hsz
    have hx1 : IntKind.i64.wrap ((a : Int) * (sz : Int)) = ((a * sz : Nat) : Int) := by
      rw [← Int.natCast_mul, IntKind.wrap_i64]; omega
    have hx2 : IntKind.i64.wrap (((a * sz : Nat) : Int) + (b : Int)) = ((a * sz + b : Nat) : Int) := by
      rw [IntKind.wrap_i64]; omega
    go_enter Try.func51, Try.ntmps51
    go_wp2_with fail
    refine (in_any gh st sz n _ _ _ _ (H.out.alloc _)).mono ?_
    rintro e w1 ⟨rfl, hw1⟩
    rw [hp]
    go_wp2_with fail
    have hA0 := (At.new w 23 #[.int .i64 a, .int .i64 b]).below hw1 (by simp)
    have hA1 := (H.out.alloc (.cells #[.int .i64 a, .int .i64 b] 23)).below hw1 (by simp; omega)
    have c0 := hA0.cell 0
    have c1 := hA0.cell 1
    have c2 := hA1.cell 1
    have c3 := hA1.cell 2
    simp only [List.getElem?_toArray, List.getElem?_cons_zero, List.getElem?_cons_succ] at c0 c1 c2 c3
    have e1 : gh < w1.heap.size := hA1.lt
    have e2 : gl < w1.heap.size := by have := hw1.size; simp at this; omega
    have e3 := hA0.lt
    have HW := Lib.hid (step_below (a := w) (by repeat first | exact Below.refl _ _ | refine Below.drew ?_ | refine Below.alloc ?_ (by simp <;> omega) _) hw1)
    clear hA0 hA1 hw1 h0 h1
    generalize hg0 : w.heap.size = g0 at *
    generalize hkk : a * sz + b = k at *
    generalize hpp : a * sz = p at *
    generalize hN : st * sz = N at *
    have hkN : (k : Int) < (N : Int) := Int.ofNat_lt.2 hk
    have hk0 : (0 : Int) ≤ (k : Int) := Int.natCast_nonneg k
    refine region_sq (fun _ => False) [(0, true), (1, true), (2, true), (3, true), (4, true), (5, true), (6, true), (7, true), (8, true), (9, true), (10, true), (11, true), (12, true), (13, true), (14, true), (15, true)] (by kernel_rfl) (by kernel_rfl) (fun _ _ d _ _ h => by cases d <;> exact h) ?_
    repeat (first
        | (refine sq_yes rfl (by rfl) (fun w' hM => by ((try replace hM := hM.of_drew); obtain ⟨hR1, hR2, hR3⟩ := hM.rules; clear hM; go_simp; with_reducible rfl)) ?_; simp only [Act.put, List.setIfInBounds_toArray, List.set_cons_zero, List.set_cons_succ])
        | (refine sq_no rfl (by rfl) ?_; simp only [Act.put, List.setIfInBounds_toArray, List.set_cons_zero, List.set_cons_succ]))
    refine sq_end ?_
    go_wp2_with fail
    go_ret
    subst hkk hpp hN hg0
    exact ⟨rfl, HW.out.drew⟩
end G2

namespace G2
abbrev V : Type := Int × Int
abbrev enc (x : V) : List Value := [.int .i64 x.1, .int .i64 x.2]
abbrev zs : List Value := [.int .i64 0, .int .i64 0]
/-- A grid in the heap: its header's block, its cells' block, and what is there. -/
def Gr (w : World) (gh gl st sz : Nat) (l : List (Option V)) : Prop :=
  At w gh 102 #[.int .i64 st, .int .i64 sz, .slice (some ⟨gl, 0, none⟩) (st * sz) (st * sz), .int .i64 (cnt l)] ∧ At w gl 106 (cells enc zs l) ∧ l.length = st * sz ∧ gh ≠ gl ∧ st ≤ 4 ∧ sz ≤ 1024
/-- What is at a place. -/
def spot (st sz : Nat) (s i : Int) (l : List (Option V)) : Option V := if pin st sz s i then (l[s.toNat * sz + i.toNat]?).join else none
/-- What a place shows. -/
def valOf : Option V → Value
  | none => .agg #[.int .i64 0, .int .i64 0]
  | some x => .agg #[.int .i64 x.1, .int .i64 x.2]
variable {w w' : World} {gh gl st sz : Nat} {l : List (Option V)}
theorem Gr.below {B : Nat} (h : Gr w gh gl st sz l) (hb : Below B w w') (h1 : gh < B) (h2 : gl < B) : Gr w' gh gl st sz l :=
  ⟨h.1.below hb h1, h.2.1.below hb h2, h.2.2⟩
theorem Gr.alloc (h : Gr w gh gl st sz l) (o : Obj) : Gr (w.alloc o) gh gl st sz l := ⟨h.1.alloc o, h.2.1.alloc o, h.2.2⟩
theorem Gr.drew (h : Gr w gh gl st sz l) : Gr w.drew gh gl st sz l := ⟨h.1.drew, h.2.1.drew, h.2.2⟩
theorem Gr.mod {M : Nat → Prop} (h : Gr w gh gl st sz l) (hm : Mod M w w') (h1 : ¬ M gh) (h2 : ¬ M gl) : Gr w' gh gl st sz l := ⟨h.1.mod hm h1, h.2.1.mod hm h2, h.2.2⟩
theorem Gr.cell (h : Gr w gh gl st sz l) (k j : Nat) (hj : j < 3) : w.cell? ⟨gl, k * 3 + j, none⟩ = (l[k]?).bind fun o => (slot enc zs o)[j]? :=
  (h.2.1.cell _).trans (cells_get (m := 3 - 1) rfl (fun _ => rfl) l k j (by omega))
theorem Gr.at_any (h : Gr w gh gl st sz l) (s i : Int) :
    Calls Try.prog 51 #[.pointer (some ⟨gh, 0, none⟩), .agg #[.int .i64 s, .int .i64 i]] w fun e w' => e = .returned (if pin st sz s i then .pointer (some ⟨gl, (s.toNat * sz + i.toNat) * 3, none⟩) else .pointer none) ∧ Below w.heap.size w w' :=
  G2.at_any gh gl st sz _ h.2.2.2.2.1 h.2.2.2.2.2 s i w h.1 h.2.1.lt
end G2
end Go.Proofs.Ytjlgkljifpjehaa
