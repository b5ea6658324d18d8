/-
  Plain machinery over any program: a region that leaves its order open, walked in one order INSIDE THE WIDE FENCE (for bodies that call 'yield'). After Reg's 'region_sq' and the kit's fenced orders.
-/
import Derived.Test.YthfgccibiajneaaReg
import Derived.OrdersIn
import Derived.WalkKit
import Derived.RangeFuncNested
namespace Go.Proofs.Ythfgccibiajneaa
open Go.RowKit
section
variable {n : Nat} {P : Program} {ops : Array Oper} {Q : Exit → Act → World → Prop} {md : Region.Mode} {S : World → Prop}
theorem yieldsIf_wpOpIn {i : Nat} {o : Oper} {v : Value} {a : Act} (hi : ops[i]? = some o) (hy : YieldsIf P ops S o v a)
    {K : Act → World → Prop} {w : World} (hS : S w) (h : K (a.put o.dst v) w) : wpOpIn Fence.wide n P ops Q i K a w := by
  unfold Go.wpOpIn
  simp only [hi]
  rcases hy with ⟨hw, hv⟩ | ⟨hw, rfl⟩
  · simp only [hw, if_true, Oper.wpIn, Fence.wide_round, Oper.semAt_none, hv w hS, Oper.uponIn]; exact ⟨fun _ _ => trivial, h⟩
  · simp only [hw, Bool.false_eq_true, if_false]; exact ⟨fun _ _ => trivial, h⟩
theorem wpOpIn_putIf {j : Nat} {oi oj : Oper} {v : Value} (hj : ops[j]? = some oj) (hap : oi.apart ops oj = true)
    (hsi : ∀ cs b, oi.op ≠ .select cs b) (hsj : ∀ cs b, oj.op ≠ .select cs b)
    (hQ : ∀ c a w, Q (.panic c) (a.put oi.dst v) w → Q (.panic c) a w) {K : Act → World → Prop} {a : Act} {w : World}
    (hy : YieldsIf P ops S oi v a) (h : wpOpIn Fence.wide n P ops Q j K (a.put oi.dst v) w) :
    wpOpIn Fence.wide n P ops Q j (fun a' w' => YieldsIf P ops S oi v a' ∧ K (a'.put oi.dst v) w') a w := by
  obtain ⟨h1, h2, h3⟩ := Oper.apart_spec hap
  have keep : ∀ (a : Act), YieldsIf P ops S oi v a → ∀ u, YieldsIf P ops S oi v (a.put oj.dst u) := fun a hy u =>
    hy.of_same (execOp_put oi hsi a oj.dst u h3) (wanted_put oi a oj.dst u h3)
  have keepD : ∀ d, YieldsIf P ops S oi v { a with defers := d :: a.defers } := fun d => hy.of_same rfl rfl
  unfold wpOpIn at *
  simp only [hj] at *
  rw [wanted_put oj a oi.dst v h1] at h
  split
  · rename_i hw
    simp only [hw, if_true] at h
    unfold Oper.wpIn at *
    refine ⟨fun _ _ => trivial, ?_⟩
    have h := h.2
    rw [Fence.wide_round, Oper.semAt_none, execOp_put oj hsj a oi.dst v h1] at h
    rw [Fence.wide_round, Oper.semAt_none]
    generalize (execOp a.eval oj).run P w = r at *
    cases r with
    | ok x w' =>
      cases x <;> simp only [Oper.uponIn] at h ⊢
      case value u => exact ⟨keep a hy u, by rw [← Act.put_comm a v u h2]; exact h⟩
      case skip => exact ⟨keep a hy _, by rw [← Act.put_comm a v undef h2]; exact h⟩
      case defer d =>
        refine ⟨keep _ (keepD d) _, ?_⟩
        rw [← Act.put_comm _ v undef h2, ← Act.put_defers]
        exact h
      case enter f args =>
        refine ⟨h.1, CallsIn.mono h.2 fun e w'' he => ?_⟩
        cases e with
        | returned u => exact ⟨keep a hy u, by rw [← Act.put_comm a v u h2]; exact he⟩
        | panicked c => exact hQ _ _ _ he
        | outgrown => exact he
      case row row args => exact ⟨h.1, RowsIn.mono h.2 fun u w'' he => ⟨keep a hy u, by rw [← Act.put_comm a v u h2]; exact he⟩⟩
      case round l f tmps assign body =>
        refine ⟨h.1, RoundIn.mono h.2 fun e w'' he => ?_⟩
        cases e with
        | returned u => exact ⟨keep a hy u, by rw [← Act.put_comm a v u h2]; exact he⟩
        | panicked c => exact hQ _ _ _ he
        | outgrown => exact he
    | halt x w' =>
      cases x <;> simp only [Oper.uponIn] at h ⊢
      case panic u => exact hQ _ _ _ h
  · rename_i hw
    simp only [hw] at h
    exact ⟨fun _ _ => trivial, keep a hy _, by rw [← Act.put_comm a v undef h2]; exact h.2⟩
/-- The row of orders, S held behind each operation. -/
def wpAnyHI (n : Nat) (P : Program) (md : Region.Mode) (ops : Array Oper) (Q : Exit → Act → World → Prop) (S : World → Prop) : Nat → Array Bool → Act → World → Prop
  | 0, listed, a, w => Region.ready md ops listed = [] ∧ Q .normal a w
  | fuel + 1, listed, a, w =>
    (Region.ready md ops listed = [] → Q .normal a w) ∧
    ∀ i ∈ Region.ready md ops listed, wpOpIn Fence.wide n P ops Q i (fun a' w' => S w' ∧ wpAnyHI n P md ops Q S fuel (listed.setIfInBounds i true) a' w') a w
theorem wpAnyIn_of_heldI : ∀ (fuel : Nat) (listed : Array Bool) (a : Act) (w : World), wpAnyHI n P md ops Q S fuel listed a w → wpAnyIn Fence.wide n P md ops Q fuel listed a w
  | 0, _, _, _, h => h
  | fuel + 1, _, _, _, h => ⟨h.1, fun i hi => wpOpIn_mono (fun a' w' h' => wpAnyIn_of_heldI fuel _ a' w' h'.2) (h.2 i hi)⟩
theorem wpAnyHI_mono {S S' : World → Prop} (h : ∀ w, S w → S' w) : ∀ (fuel : Nat) (listed : Array Bool) (a : Act) (w : World), wpAnyHI n P md ops Q S fuel listed a w → wpAnyHI n P md ops Q S' fuel listed a w
  | 0, _, _, _, hh => hh
  | fuel + 1, _, _, _, hh => ⟨hh.1, fun i hi => wpOpIn_mono (fun a' w' x => ⟨h _ x.1, wpAnyHI_mono h fuel _ a' w' x.2⟩) (hh.2 i hi)⟩
theorem wpAnyHI_first {i : Nat} {oi : Oper} {v : Value} (hi : ops[i]? = some oi) (hsel : ∀ (j : Nat) (o : Oper) cs b, ops[j]? = some o → o.op ≠ .select cs b)
    (hQ : ∀ c a w, Q (.panic c) (a.put oi.dst v) w → Q (.panic c) a w) :
    ∀ (fuel : Nat) (listed : Array Bool) (a : Act) (w : World),
      (∀ j oj, ops[j]? = some oj → j ≠ i → listed.getD j true = false → (∀ e ∈ oj.after, Region.binds md e = true → e.on ≠ i) → oi.apart ops oj = true) →
      i ∈ Region.ready md ops listed → YieldsIf P ops S oi v a → S w →
      wpAnyHI n P md ops Q S fuel (listed.setIfInBounds i true) (a.put oi.dst v) w → wpAnyHI n P md ops Q S (fuel + 1) listed a w := by
  intro fuel
  induction fuel with
  | zero =>
    intro listed a w _ hr hy hS H
    refine ⟨fun h => (by rw [h] at hr; cases hr), fun j hj => ?_⟩
    by_cases hji : j = i
    · subst hji; exact yieldsIf_wpOpIn hi hy hS ⟨hS, H⟩
    · have := ready_mono hj hji
      rw [H.1] at this
      cases this
  | succ fuel ih =>
    intro listed a w hfree hr hy hS H
    refine ⟨fun h => (by rw [h] at hr; cases hr), fun j hj => ?_⟩
    by_cases hji : j = i
    · subst hji; exact yieldsIf_wpOpIn hi hy hS ⟨hS, H⟩
    · have h1 := H.2 j (ready_mono hj hji)
      obtain ⟨hjun, oj, hoj, hall⟩ := mem_ready.1 hj
      have hnot : ∀ e ∈ oj.after, Region.binds md e = true → e.on ≠ i := fun e he hb heq => by
        have h1 := hall e he hb
        have h0 := (mem_ready.1 hr).1
        rw [heq] at h1
        rcases Nat.lt_or_ge i listed.size with h' | h'
        · simp [h'] at h0 h1; rw [h0] at h1; cases h1
        · simp [Array.getElem?_eq_none h'] at h1
      have h2 := wpOpIn_putIf hoj (hfree j oj hoj hji hjun hnot) (fun cs b => hsel i oi cs b hi) (fun cs b => hsel j oj cs b hoj) hQ hy h1
      have hfree' : ∀ k ok, ops[k]? = some ok → k ≠ i → (listed.setIfInBounds j true).getD k true = false →
          (∀ e ∈ ok.after, Region.binds md e = true → e.on ≠ i) → oi.apart ops ok = true := fun k ok hk hki hun hno => by
        refine hfree k ok hk hki ?_ hno
        by_cases hjk : j = k
        · subst hjk; exact hjun
        · rw [getD_set_ne true hjk] at hun; exact hun
      refine wpOpIn_mono (fun a' w' h3 => ⟨h3.2.1, ih (listed.setIfInBounds j true) a' w' hfree' (ready_mono hr (Ne.symm hji)) h3.1 h3.2.1 ?_⟩) h2
      rw [Array.setIfInBounds_comm _ _ hji]
      exact h3.2.2
/-- A region in one order, inside the wide fence (as 'wpSq'). -/
def wpSqI (n : Nat) (P : Program) (ops : Array Oper) (Q : Exit → Act → World → Prop) (M : Nat → Prop) (E : Act → World → Prop) : List (Nat × Bool) → Act → World → Prop
  | [], a, w => E a w
  | (i, true) :: r, a, w => ∃ o v, ops[i]? = some o ∧ (∀ w', Mod M w w' → if Region.wanted o (yielded ops a.tmps) = true then (execOp a.eval o).run P w' = .ok (.value v) w' else v = undef) ∧ wpSqI n P ops Q M E r (a.put o.dst v) w
  | (i, false) :: r, a, w => wpOpIn Fence.wide n P ops Q i (fun a' w' => Mod M w w' ∧ wpSqI n P ops Q M E r a' w') a w
theorem wpAnyHI_of_sq {M : Nat → Prop} (hs : Region.noSelect ops = true) (hQ : ∀ c a d v w, Q (.panic c) (Act.put a d v) w → Q (.panic c) a w) (m : Nat) :
    ∀ (plan : List (Nat × Bool)) (listed : Array Bool) (a : Act) (w : World), sqOk md ops plan listed = true →
      wpSqI n P ops Q M (fun a w => wpAnyHI n P md ops Q (Mod M w) m (sqSet plan listed) a w) plan a w → wpAnyHI n P md ops Q (Mod M w) (m + plan.length) listed a w
  | [], _, _, _, _, h => h
  | (i, true) :: r, listed, a, w, ho, h => by
    simp only [sqOk, Bool.and_eq_true] at ho
    obtain ⟨o, v, hi, hy, hr⟩ := h
    have ih := wpAnyHI_of_sq hs hQ m r _ _ w ho.2 hr
    refine wpAnyHI_first hi (Region.noSelect_spec hs) (fun c a w => hQ c a _ _ w) _ listed a w (Region.free_spec hi ho.1.1) (by simpa using ho.1.2) ?_ (Mod.refl M w) ih
    by_cases hw : Region.wanted o (yielded ops a.tmps) = true
    · exact .inl ⟨hw, fun w' hM => by have := hy w' hM; rwa [if_pos hw] at this⟩
    · exact .inr ⟨by simpa using hw, by have := hy w (Mod.refl M w); rwa [if_neg hw] at this⟩
  | (i, false) :: r, listed, a, w, ho, h => by
    simp only [sqOk, Bool.and_eq_true, beq_iff_eq] at ho
    refine ⟨fun h0 => absurd (ho.1 ▸ h0) (by simp), fun j hj => ?_⟩
    rw [ho.1, List.mem_singleton] at hj
    subst hj
    exact wpOpIn_mono (fun a' w' x => ⟨x.1, wpAnyHI_mono (fun _ y => x.1.trans y) _ _ _ _ (wpAnyHI_of_sq hs hQ m r _ a' w' ho.2 x.2)⟩) h
theorem wpSqI_mono {M : Nat → Prop} {E E' : Act → World → Prop} (hE : ∀ a w, E a w → E' a w) : ∀ (plan : List (Nat × Bool)) (a : Act) (w : World), wpSqI n P ops Q M E plan a w → wpSqI n P ops Q M E' plan a w
  | [], a, w, h => hE a w h
  | (_, true) :: r, _, w, ⟨o, v, h1, h2, h3⟩ => ⟨o, v, h1, h2, wpSqI_mono hE r _ w h3⟩
  | (_, false) :: r, _, _, h => wpOpIn_mono (fun a' w' x => ⟨x.1, wpSqI_mono hE r a' w' x.2⟩) h
/-- THE BEGINNING. -/
theorem region_sqI {id : Nat} {a : Act} {w : World} (M : Nat → Prop) (plan : List (Nat × Bool)) (hm : P.follows .mixedOrders = true)
    (ho : (Region.noSelect ops && (plan.length == ops.size) && sqOk .any ops plan (Array.replicate ops.size false) && (Region.ready .any ops (sqSet plan (Array.replicate ops.size false))).isEmpty) = true)
    (hQ : ∀ c a d v w, Q (.panic c) (Act.put a d v) w → Q (.panic c) a w)
    (h : wpSqI n P ops Q M (Q .normal) plan a w.drew) : (Code.region id ops true).wpIn Fence.wide n P Q a w := by
  simp only [Bool.and_eq_true, beq_iff_eq, List.isEmpty_iff] at ho
  have := wpAnyHI_of_sq (md := .any) ho.1.1.1 hQ 0 plan _ a w.drew ho.1.2 (wpSqI_mono (fun a w hq => (⟨ho.2, hq⟩ : wpAnyHI n P .any ops Q _ 0 _ a w)) plan _ _ h)
  rw [Nat.zero_add, ho.1.1.2] at this
  exact wpIn_region_any hm (wpAnyIn_of_heldI _ _ _ _ this)
theorem sqI_yes {M : Nat → Prop} {E : Act → World → Prop} {i : Nat} {r : List (Nat × Bool)} {a : Act} {w : World} {o : Oper} {v : Value} (hi : ops.toList[i]? = some o)
    (hw : Region.wanted o (yielded ops a.tmps) = true) (hy : ∀ w', Mod M w w' → (execOp a.eval o).run P w' = .ok (.value v) w')
    (h : wpSqI n P ops Q M E r (a.put o.dst v) w) : wpSqI n P ops Q M E ((i, true) :: r) a w := ⟨o, v, of_toList hi, fun w' hM => by rw [if_pos hw]; exact hy w' hM, h⟩
theorem sqI_no {M : Nat → Prop} {E : Act → World → Prop} {i : Nat} {r : List (Nat × Bool)} {a : Act} {w : World} {o : Oper} (hi : ops.toList[i]? = some o)
    (hw : Region.wanted o (yielded ops a.tmps) = false) (h : wpSqI n P ops Q M E r (a.put o.dst undef) w) : wpSqI n P ops Q M E ((i, true) :: r) a w := ⟨o, undef, of_toList hi, fun w' hM => by rw [hw]; rfl, h⟩
theorem sqI_do_yes {M : Nat → Prop} {E : Act → World → Prop} {i : Nat} {r : List (Nat × Bool)} {a : Act} {w : World} {o : Oper} (hi : ops.toList[i]? = some o)
    (hw : Region.wanted o (yielded ops a.tmps) = true)
    (h : ∀ K : Act → World → Prop, (∀ a' w', (Mod M w w' ∧ wpSqI n P ops Q M E r a' w') → K a' w') → o.wpIn Fence.wide n P a w K Q) : wpSqI n P ops Q M E ((i, false) :: r) a w := by
  have := h _ (fun _ _ h => h)
  show wpOpIn Fence.wide n P ops Q i _ a w
  unfold wpOpIn
  simp only [of_toList hi, hw, if_true]
  exact this
theorem sqI_do_no {M : Nat → Prop} {E : Act → World → Prop} {i : Nat} {r : List (Nat × Bool)} {a : Act} {w : World} {o : Oper} (hi : ops.toList[i]? = some o)
    (hw : Region.wanted o (yielded ops a.tmps) = false) (h : wpSqI n P ops Q M E r (a.put o.dst undef) w) : wpSqI n P ops Q M E ((i, false) :: r) a w := by
  show wpOpIn Fence.wide n P ops Q i _ a w
  unfold wpOpIn
  simp only [of_toList hi, hw, Bool.false_eq_true, if_false]
  exact ⟨fun _ _ => trivial, Mod.refl M w, h⟩
theorem sqI_end {M : Nat → Prop} {E : Act → World → Prop} {a : Act} {w : World} (h : E a w) : wpSqI n P ops Q M E [] a w := h
end
end Go.Proofs.Ythfgccibiajneaa
