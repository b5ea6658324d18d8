/-
  A region in two phases, where two are left to come at a place of the first: after Reg's region_sq2 and any_two.
-/
import Derived.Test.YtjjadakjkkmjgaaReg
namespace Go.Proofs.Ytjjadakjkkmjgaa
open Go.RowKit
section
variable {P : Program} {ops : Array Oper} {Q : Exit → Act → World → Prop} {md : Region.Mode} {D : Nat → Bool} {M N : Nat → Prop}
/-- Does each of the second phase wait for all that these rows take? -/
def dOk (md : Region.Mode) (ops : Array Oper) (D : Nat → Bool) (plan : List (Nat × Bool)) : Bool := (List.range ops.size).all fun j => !D j || waitsAll md ops plan j
theorem dOk_spec {plan : List (Nat × Bool)} (h : dOk md ops D plan = true) : ∀ i, (i, true) ∈ plan → ∀ j oj, ops[j]? = some oj → D j = true → ∃ e ∈ oj.after, Region.binds md e = true ∧ e.on = i := fun i hi j oj hj hd => by
  have hlt : j < ops.size := (Array.getElem?_eq_some_iff.1 hj).1
  have := List.all_eq_true.1 h j (List.mem_range.2 hlt)
  rw [hd] at this
  exact waitsAll_spec hj (by simpa using this) hi
/-- THE BEGINNING: 'n' are left. -/
theorem region_sq2_till {id : Nat} {a : Act} {w : World} (D : Nat → Bool) (M : Nat → Prop) (plan : List (Nat × Bool)) (n : Nat) (hm : P.follows .mixedOrders = true)
    (ho : (Region.noSelect ops && (n + plan.length == ops.size) && sqOk .any ops plan (Array.replicate ops.size false) && dOk .any ops D plan) = true)
    (hQ : ∀ c a d v w, Q (.panic c) (Act.put a d v) w → Q (.panic c) a w)
    (h : wpSq P ops Q M (fun a w => wpAnyR P .any ops Q D (Mod M w) n (sqSet plan (Array.replicate ops.size false)) a w) plan a w.drew) : (Code.region id ops true).wp P Q a w := by
  simp only [Bool.and_eq_true, beq_iff_eq] at ho
  have := wpAnyR_of_sq (md := .any) D ho.1.1.1 hQ n plan _ a w.drew ho.1.2 (dOk_spec ho.2) h
  rw [ho.1.1.2] at this
  exact wp_region_any hm (wpAny_of_R _ _ _ _ this)
/-- A row on the way. -/
theorem anyR_sq {n : Nat} {listed : Array Bool} {a : Act} {w : World} (plan : List (Nat × Bool)) (ho : (Region.noSelect ops && sqOk md ops plan listed && dOk md ops D plan) = true)
    (hQ : ∀ c a d v w, Q (.panic c) (Act.put a d v) w → Q (.panic c) a w)
    (h : wpSq P ops Q M (fun a w => wpAnyR P md ops Q D (Mod M w) n (sqSet plan listed) a w) plan a w) : wpAnyR P md ops Q D (Mod M w) (n + plan.length) listed a w := by
  simp only [Bool.and_eq_true] at ho
  exact wpAnyR_of_sq D ho.1.1 hQ n plan listed a w ho.1.2 (dOk_spec ho.2) h
/-- Two are left to come: either may be the first. -/
theorem anyR_two {n : Nat} {listed : Array Bool} {a : Act} {w : World} (i j : Nat) (ho : (Region.ready md ops listed == [i, j]) = true)
    (h1 : wpSq P ops Q M (fun a w => wpAnyR P md ops Q D (Mod M w) n (listed.setIfInBounds i true) a w) [(i, false)] a w)
    (h2 : wpSq P ops Q M (fun a w => wpAnyR P md ops Q D (Mod M w) n (listed.setIfInBounds j true) a w) [(j, false)] a w) : wpAnyR P md ops Q D (Mod M w) (n + 1) listed a w := by
  simp only [beq_iff_eq] at ho
  have key : ∀ (k : Nat), wpSq P ops Q M (fun a w => wpAnyR P md ops Q D (Mod M w) n (listed.setIfInBounds k true) a w) [(k, false)] a w →
      wpOp P ops Q k (fun a' w' => (D k = false → Mod M w w') ∧ wpAnyR P md ops Q D (Mod M w) n (listed.setIfInBounds k true) a' w') a w := fun k h =>
    wpOp_mono (fun a' w' x => ⟨fun _ => x.1, wpAnyR_mono (fun _ y => x.1.trans y) _ _ _ _ x.2⟩) h
  refine ⟨fun h0 => absurd (ho.symm.trans h0) (by simp), fun k hk => ?_⟩
  rw [ho] at hk
  simp only [List.mem_cons, List.not_mem_nil, or_false] at hk
  rcases hk with rfl | rfl
  · exact key _ h1
  · exact key _ h2
/-- The second phase: what was read need not be kept. -/
theorem anyR_last {listed : Array Bool} {a : Act} {w : World} {S : World → Prop} (N : Nat → Prop) (plan2 : List (Nat × Bool))
    (ho : (Region.noSelect ops && sqOk md ops plan2 listed && (Region.ready md ops (sqSet plan2 listed)).isEmpty && (List.range ops.size).all fun i => listed.getD i true || D i) = true)
    (hQ : ∀ c a d v w, Q (.panic c) (Act.put a d v) w → Q (.panic c) a w)
    (h : wpSq P ops Q N (Q .normal) plan2 a w) : wpAnyR P md ops Q D S plan2.length listed a w := by
  simp only [Bool.and_eq_true, List.isEmpty_iff, List.all_eq_true, List.mem_range, Bool.or_eq_true] at ho
  obtain ⟨⟨⟨hs, h2⟩, he⟩, hd⟩ := ho
  refine wpAnyR_of_any _ _ a w (fun i hi hu => by rcases hd i hi with h | h <;> simp_all) ?_
  have := wpAnyH_of_sq (md := md) hs hQ 0 plan2 listed a w h2 (wpSq_mono (fun a w hq => wpAnyH_done he hq 0) plan2 _ _ h)
  rw [Nat.zero_add] at this
  exact wpAny_of_held _ _ _ _ this
end
end Go.Proofs.Ytjjadakjkkmjgaa
