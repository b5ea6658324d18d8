/-
  Texts in one, each behind those that it needs: RegIn, RegTail, PoLive, PoEqs, PoFacts, PoPd, AggIn.
-/
import Derived.Test.YtgjecemmejaieaaBam
import Derived.OrdersIn
import Derived.RangeFuncNested
import Derived.StillTail
import Derived.RangeFuncBound
import Derived.RangeFuncCalls
import Derived.RangeFuncLeaves
import Derived.RangeFuncBox
import Derived.Shelf.RegionOpen
import Derived.OwnWalkIn
import Derived.TacticsInMore
import Derived.LoopNIn
import Derived.LoopIn
/-
  Plain machinery over any program: a region that leaves its order open, walked in one order INSIDE THE WIDE FENCE (for bodies that call 'yield'). After Reg's 'region_sq' and the kit's fenced orders.
-/
namespace Go.Proofs.Ytgjecemmejaieaa
open Go.RowKit
section
variable {n : Nat} {P : Program} {ops : Array Oper} {Q : Exit → Act → World → Prop} {md : Region.Mode} {S : World → Prop}
theorem yieldsIf_wpOpIn {i : Nat} {o : Oper} {v : Value} {a : Act} (hi : ops[i]? = some o) (hy : YieldsIf P ops S o v a)
    {K : Act → World → Prop} {w : World} (hS : S w) (h : K (a.put o.dst v) w) : wpOpIn Fence.wide n P ops Q i K a w := by
  unfold Go.wpOpIn
  simp only [hi]
  rcases hy with ⟨hw, hv⟩ | ⟨hw, rfl⟩
  · simp only [hw, if_true, Oper.wpIn, Fence.wide_round, Oper.semAt_none, hv w hS, Oper.uponIn]; exact ⟨fun _ _ => trivial, h⟩
  · simp only [hw, Bool.false_eq_true, if_false]; exact ⟨fun _ _ => trivial, h⟩
theorem wpOpIn_putIf {j : Nat} {oi oj : Oper} {v : Value} (hj : ops[j]? = some oj) (hap : oi.apart ops oj = true)
    (hsi : ∀ cs b, oi.op ≠ .select cs b) (hsj : ∀ cs b, oj.op ≠ .select cs b)
    (hQ : ∀ c a w, Q (.panic c) (a.put oi.dst v) w → Q (.panic c) a w) {K : Act → World → Prop} {a : Act} {w : World}
    (hy : YieldsIf P ops S oi v a) (h : wpOpIn Fence.wide n P ops Q j K (a.put oi.dst v) w) :
    wpOpIn Fence.wide n P ops Q j (fun a' w' => YieldsIf P ops S oi v a' ∧ K (a'.put oi.dst v) w') a w := by
  obtain ⟨h1, h2, h3⟩ := Oper.apart_spec hap
  have keep : ∀ (a : Act), YieldsIf P ops S oi v a → ∀ u, YieldsIf P ops S oi v (a.put oj.dst u) := fun a hy u =>
    hy.of_same (execOp_put oi hsi a oj.dst u h3) (wanted_put oi a oj.dst u h3)
  have keepD : ∀ d, YieldsIf P ops S oi v { a with defers := d :: a.defers } := fun d => hy.of_same rfl rfl
  unfold wpOpIn at *
  simp only [hj] at *
  rw [wanted_put oj a oi.dst v h1] at h
  split
  · rename_i hw
    simp only [hw, if_true] at h
    unfold Oper.wpIn at *
    refine ⟨fun _ _ => trivial, ?_⟩
    have h := h.2
    rw [Fence.wide_round, Oper.semAt_none, execOp_put oj hsj a oi.dst v h1] at h
    rw [Fence.wide_round, Oper.semAt_none]
    generalize (execOp a.eval oj).run P w = r at *
    cases r with
    | ok x w' =>
      cases x <;> simp only [Oper.uponIn] at h ⊢
      case value u => exact ⟨keep a hy u, by rw [← Act.put_comm a v u h2]; exact h⟩
      case skip => exact ⟨keep a hy _, by rw [← Act.put_comm a v undef h2]; exact h⟩
      case defer d =>
        refine ⟨keep _ (keepD d) _, ?_⟩
        rw [← Act.put_comm _ v undef h2, ← Act.put_defers]
        exact h
      case enter f args =>
        refine ⟨h.1, CallsIn.mono h.2 fun e w'' he => ?_⟩
        cases e with
        | returned u => exact ⟨keep a hy u, by rw [← Act.put_comm a v u h2]; exact he⟩
        | panicked c => exact hQ _ _ _ he
        | outgrown => exact he
      case row row args => exact ⟨h.1, RowsIn.mono h.2 fun u w'' he => ⟨keep a hy u, by rw [← Act.put_comm a v u h2]; exact he⟩⟩
      case round l f tmps assign body =>
        refine ⟨h.1, RoundIn.mono h.2 fun e w'' he => ?_⟩
        cases e with
        | returned u => exact ⟨keep a hy u, by rw [← Act.put_comm a v u h2]; exact he⟩
        | panicked c => exact hQ _ _ _ he
        | outgrown => exact he
    | halt x w' =>
      cases x <;> simp only [Oper.uponIn] at h ⊢
      case panic u => exact hQ _ _ _ h
  · rename_i hw
    simp only [hw] at h
    exact ⟨fun _ _ => trivial, keep a hy _, by rw [← Act.put_comm a v undef h2]; exact h.2⟩
/-- The row of orders, S held behind each operation. -/
def wpAnyHI (n : Nat) (P : Program) (md : Region.Mode) (ops : Array Oper) (Q : Exit → Act → World → Prop) (S : World → Prop) : Nat → Array Bool → Act → World → Prop
  | 0, listed, a, w => Region.ready md ops listed = [] ∧ Q .normal a w
  | fuel + 1, listed, a, w =>
    (Region.ready md ops listed = [] → Q .normal a w) ∧
    ∀ i ∈ Region.ready md ops listed, wpOpIn Fence.wide n P ops Q i (fun a' w' => S w' ∧ wpAnyHI n P md ops Q S fuel (listed.setIfInBounds i true) a' w') a w
theorem wpAnyIn_of_heldI : ∀ (fuel : Nat) (listed : Array Bool) (a : Act) (w : World), wpAnyHI n P md ops Q S fuel listed a w → wpAnyIn Fence.wide n P md ops Q fuel listed a w
  | 0, _, _, _, h => h
  | fuel + 1, _, _, _, h => ⟨h.1, fun i hi => wpOpIn_mono (fun a' w' h' => wpAnyIn_of_heldI fuel _ a' w' h'.2) (h.2 i hi)⟩
theorem wpAnyHI_mono {S S' : World → Prop} (h : ∀ w, S w → S' w) : ∀ (fuel : Nat) (listed : Array Bool) (a : Act) (w : World), wpAnyHI n P md ops Q S fuel listed a w → wpAnyHI n P md ops Q S' fuel listed a w
  | 0, _, _, _, hh => hh
  | fuel + 1, _, _, _, hh => ⟨hh.1, fun i hi => wpOpIn_mono (fun a' w' x => ⟨h _ x.1, wpAnyHI_mono h fuel _ a' w' x.2⟩) (hh.2 i hi)⟩
theorem wpAnyHI_first {i : Nat} {oi : Oper} {v : Value} (hi : ops[i]? = some oi) (hsel : ∀ (j : Nat) (o : Oper) cs b, ops[j]? = some o → o.op ≠ .select cs b)
    (hQ : ∀ c a w, Q (.panic c) (a.put oi.dst v) w → Q (.panic c) a w) :
    ∀ (fuel : Nat) (listed : Array Bool) (a : Act) (w : World),
      (∀ j oj, ops[j]? = some oj → j ≠ i → listed.getD j true = false → (∀ e ∈ oj.after, Region.binds md e = true → e.on ≠ i) → oi.apart ops oj = true) →
      i ∈ Region.ready md ops listed → YieldsIf P ops S oi v a → S w →
      wpAnyHI n P md ops Q S fuel (listed.setIfInBounds i true) (a.put oi.dst v) w → wpAnyHI n P md ops Q S (fuel + 1) listed a w := by
  intro fuel
  induction fuel with
  | zero =>
    intro listed a w _ hr hy hS H
    refine ⟨fun h => (by rw [h] at hr; cases hr), fun j hj => ?_⟩
    by_cases hji : j = i
    · subst hji; exact yieldsIf_wpOpIn hi hy hS ⟨hS, H⟩
    · have := ready_mono hj hji
      rw [H.1] at this
      cases this
  | succ fuel ih =>
    intro listed a w hfree hr hy hS H
    refine ⟨fun h => (by rw [h] at hr; cases hr), fun j hj => ?_⟩
    by_cases hji : j = i
    · subst hji; exact yieldsIf_wpOpIn hi hy hS ⟨hS, H⟩
    · have h1 := H.2 j (ready_mono hj hji)
      obtain ⟨hjun, oj, hoj, hall⟩ := mem_ready.1 hj
      have hnot : ∀ e ∈ oj.after, Region.binds md e = true → e.on ≠ i := fun e he hb heq => by
        have h1 := hall e he hb
        have h0 := (mem_ready.1 hr).1
        rw [heq] at h1
        rcases Nat.lt_or_ge i listed.size with h' | h'
        · simp [h'] at h0 h1; rw [h0] at h1; cases h1
        · simp [Array.getElem?_eq_none h'] at h1
      have h2 := wpOpIn_putIf hoj (hfree j oj hoj hji hjun hnot) (fun cs b => hsel i oi cs b hi) (fun cs b => hsel j oj cs b hoj) hQ hy h1
      have hfree' : ∀ k ok, ops[k]? = some ok → k ≠ i → (listed.setIfInBounds j true).getD k true = false →
          (∀ e ∈ ok.after, Region.binds md e = true → e.on ≠ i) → oi.apart ops ok = true := fun k ok hk hki hun hno => by
        refine hfree k ok hk hki ?_ hno
        by_cases hjk : j = k
        · subst hjk; exact hjun
        · rw [getD_set_ne true hjk] at hun; exact hun
      refine wpOpIn_mono (fun a' w' h3 => ⟨h3.2.1, ih (listed.setIfInBounds j true) a' w' hfree' (ready_mono hr (Ne.symm hji)) h3.1 h3.2.1 ?_⟩) h2
      rw [Array.setIfInBounds_comm _ _ hji]
      exact h3.2.2
/-- A region in one order, inside the wide fence (as 'wpSq'). -/
def wpSqI (n : Nat) (P : Program) (ops : Array Oper) (Q : Exit → Act → World → Prop) (M : Nat → Prop) (E : Act → World → Prop) : List (Nat × Bool) → Act → World → Prop
  | [], a, w => E a w
  | (i, true) :: r, a, w => ∃ o v, ops[i]? = some o ∧ (∀ w', Mod M w w' → if Region.wanted o (yielded ops a.tmps) = true then (execOp a.eval o).run P w' = .ok (.value v) w' else v = undef) ∧ wpSqI n P ops Q M E r (a.put o.dst v) w
  | (i, false) :: r, a, w => wpOpIn Fence.wide n P ops Q i (fun a' w' => Mod M w w' ∧ wpSqI n P ops Q M E r a' w') a w
theorem wpAnyHI_of_sq {M : Nat → Prop} (hs : Region.noSelect ops = true) (hQ : ∀ c a d v w, Q (.panic c) (Act.put a d v) w → Q (.panic c) a w) (m : Nat) :
    ∀ (plan : List (Nat × Bool)) (listed : Array Bool) (a : Act) (w : World), sqOk md ops plan listed = true →
      wpSqI n P ops Q M (fun a w => wpAnyHI n P md ops Q (Mod M w) m (sqSet plan listed) a w) plan a w → wpAnyHI n P md ops Q (Mod M w) (m + plan.length) listed a w
  | [], _, _, _, _, h => h
  | (i, true) :: r, listed, a, w, ho, h => by
    simp only [sqOk, Bool.and_eq_true] at ho
    obtain ⟨o, v, hi, hy, hr⟩ := h
    have ih := wpAnyHI_of_sq hs hQ m r _ _ w ho.2 hr
    refine wpAnyHI_first hi (Region.noSelect_spec hs) (fun c a w => hQ c a _ _ w) _ listed a w (Region.free_spec hi ho.1.1) (by simpa using ho.1.2) ?_ (Mod.refl M w) ih
    by_cases hw : Region.wanted o (yielded ops a.tmps) = true
    · exact .inl ⟨hw, fun w' hM => by have := hy w' hM; rwa [if_pos hw] at this⟩
    · exact .inr ⟨by simpa using hw, by have := hy w (Mod.refl M w); rwa [if_neg hw] at this⟩
  | (i, false) :: r, listed, a, w, ho, h => by
    simp only [sqOk, Bool.and_eq_true, beq_iff_eq] at ho
    refine ⟨fun h0 => absurd (ho.1 ▸ h0) (by simp), fun j hj => ?_⟩
    rw [ho.1, List.mem_singleton] at hj
    subst hj
    exact wpOpIn_mono (fun a' w' x => ⟨x.1, wpAnyHI_mono (fun _ y => x.1.trans y) _ _ _ _ (wpAnyHI_of_sq hs hQ m r _ a' w' ho.2 x.2)⟩) h
theorem wpSqI_mono {M : Nat → Prop} {E E' : Act → World → Prop} (hE : ∀ a w, E a w → E' a w) : ∀ (plan : List (Nat × Bool)) (a : Act) (w : World), wpSqI n P ops Q M E plan a w → wpSqI n P ops Q M E' plan a w
  | [], a, w, h => hE a w h
  | (_, true) :: r, _, w, ⟨o, v, h1, h2, h3⟩ => ⟨o, v, h1, h2, wpSqI_mono hE r _ w h3⟩
  | (_, false) :: r, _, _, h => wpOpIn_mono (fun a' w' x => ⟨x.1, wpSqI_mono hE r a' w' x.2⟩) h
/-- THE BEGINNING. -/
theorem region_sqI {id : Nat} {a : Act} {w : World} (M : Nat → Prop) (plan : List (Nat × Bool)) (hm : P.follows .mixedOrders = true)
    (ho : (Region.noSelect ops && (plan.length == ops.size) && sqOk .any ops plan (Array.replicate ops.size false) && (Region.ready .any ops (sqSet plan (Array.replicate ops.size false))).isEmpty) = true)
    (hQ : ∀ c a d v w, Q (.panic c) (Act.put a d v) w → Q (.panic c) a w)
    (h : wpSqI n P ops Q M (Q .normal) plan a w.drew) : (Code.region id ops true).wpIn Fence.wide n P Q a w := by
  simp only [Bool.and_eq_true, beq_iff_eq, List.isEmpty_iff] at ho
  have := wpAnyHI_of_sq (md := .any) ho.1.1.1 hQ 0 plan _ a w.drew ho.1.2 (wpSqI_mono (fun a w hq => (⟨ho.2, hq⟩ : wpAnyHI n P .any ops Q _ 0 _ a w)) plan _ _ h)
  rw [Nat.zero_add, ho.1.1.2] at this
  exact wpIn_region_any hm (wpAnyIn_of_heldI _ _ _ _ this)
theorem sqI_yes {M : Nat → Prop} {E : Act → World → Prop} {i : Nat} {r : List (Nat × Bool)} {a : Act} {w : World} {o : Oper} {v : Value} (hi : ops.toList[i]? = some o)
    (hw : Region.wanted o (yielded ops a.tmps) = true) (hy : ∀ w', Mod M w w' → (execOp a.eval o).run P w' = .ok (.value v) w')
    (h : wpSqI n P ops Q M E r (a.put o.dst v) w) : wpSqI n P ops Q M E ((i, true) :: r) a w := ⟨o, v, of_toList hi, fun w' hM => by rw [if_pos hw]; exact hy w' hM, h⟩
theorem sqI_no {M : Nat → Prop} {E : Act → World → Prop} {i : Nat} {r : List (Nat × Bool)} {a : Act} {w : World} {o : Oper} (hi : ops.toList[i]? = some o)
    (hw : Region.wanted o (yielded ops a.tmps) = false) (h : wpSqI n P ops Q M E r (a.put o.dst undef) w) : wpSqI n P ops Q M E ((i, true) :: r) a w := ⟨o, undef, of_toList hi, fun w' hM => by rw [hw]; rfl, h⟩
theorem sqI_do_yes {M : Nat → Prop} {E : Act → World → Prop} {i : Nat} {r : List (Nat × Bool)} {a : Act} {w : World} {o : Oper} (hi : ops.toList[i]? = some o)
    (hw : Region.wanted o (yielded ops a.tmps) = true)
    (h : ∀ K : Act → World → Prop, (∀ a' w', (Mod M w w' ∧ wpSqI n P ops Q M E r a' w') → K a' w') → o.wpIn Fence.wide n P a w K Q) : wpSqI n P ops Q M E ((i, false) :: r) a w := by
  have := h _ (fun _ _ h => h)
  show wpOpIn Fence.wide n P ops Q i _ a w
  unfold wpOpIn
  simp only [of_toList hi, hw, if_true]
  exact this
theorem sqI_do_no {M : Nat → Prop} {E : Act → World → Prop} {i : Nat} {r : List (Nat × Bool)} {a : Act} {w : World} {o : Oper} (hi : ops.toList[i]? = some o)
    (hw : Region.wanted o (yielded ops a.tmps) = false) (h : wpSqI n P ops Q M E r (a.put o.dst undef) w) : wpSqI n P ops Q M E ((i, false) :: r) a w := by
  show wpOpIn Fence.wide n P ops Q i _ a w
  unfold wpOpIn
  simp only [of_toList hi, hw, Bool.false_eq_true, if_false]
  exact ⟨fun _ _ => trivial, Mod.refl M w, h⟩
theorem sqI_end {M : Nat → Prop} {E : Act → World → Prop} {a : Act} {w : World} (h : E a w) : wpSqI n P ops Q M E [] a w := h
end
end Go.Proofs.Ytgjecemmejaieaa

/-
  Plain machinery over any program: a region inside the wide fence whose head only computes and reads, and whose last operations (a call of 'yield', say) wait for all of the head: behind them nothing that was read need be kept.
-/
namespace Go.Proofs.Ytgjecemmejaieaa
open Go.RowKit
section
variable {n : Nat} {P : Program} {ops : Array Oper} {Q : Exit → Act → World → Prop} {md : Region.Mode} {S : World → Prop}
/-- The head's orders, S held behind each; behind the head: whatever order. -/
def wpHeadI (n : Nat) (P : Program) (md : Region.Mode) (ops : Array Oper) (Q : Exit → Act → World → Prop) (S : World → Prop) (m g : Nat) : Nat → Array Bool → Act → World → Prop
  | 0, listed, a, w => (∀ j ∈ Region.ready md ops listed, m ≤ j) ∧ wpAnyIn Fence.wide n P md ops Q g listed a w
  | f + 1, listed, a, w => Region.ready md ops listed ≠ [] ∧ ∀ i ∈ Region.ready md ops listed, i < m ∧ wpOpIn Fence.wide n P ops Q i (fun a' w' => S w' ∧ wpHeadI n P md ops Q S m g f (listed.setIfInBounds i true) a' w') a w
theorem wpAnyIn_of_head {m g : Nat} : ∀ (f : Nat) (listed : Array Bool) (a : Act) (w : World), wpHeadI n P md ops Q S m g f listed a w → wpAnyIn Fence.wide n P md ops Q (f + g) listed a w
  | 0, listed, a, w, h => by rw [Nat.zero_add]; exact h.2
  | f + 1, listed, a, w, h => by
    rw [show f + 1 + g = (f + g) + 1 by omega]
    exact ⟨fun h0 => absurd h0 h.1, fun i hi => wpOpIn_mono (fun a' w' x => wpAnyIn_of_head f _ a' w' x.2) (h.2 i hi).2⟩
theorem wpHeadI_first {m g i : Nat} {oi : Oper} {v : Value} (hi : ops[i]? = some oi) (hsel : ∀ (j : Nat) (o : Oper) cs b, ops[j]? = some o → o.op ≠ .select cs b)
    (hs : Region.sinkB md ops m = true) (hc : Region.chainB md ops m = true) (hn : m < ops.size) (him : i < m)
    (hQ : ∀ c a w, Q (.panic c) (a.put oi.dst v) w → Q (.panic c) a w) :
    ∀ (f : Nat) (listed : Array Bool) (a : Act) (w : World), HeadInv md ops m listed →
      (∀ j oj, ops[j]? = some oj → j ≠ i → listed.getD j true = false → (∀ e ∈ oj.after, Region.binds md e = true → e.on ≠ i) → oi.apart ops oj = true) →
      i ∈ Region.ready md ops listed → YieldsIf P ops S oi v a → S w →
      wpHeadI n P md ops Q S m g f (listed.setIfInBounds i true) (a.put oi.dst v) w → wpHeadI n P md ops Q S m g (f + 1) listed a w := by
  intro f
  induction f with
  | zero =>
    intro listed a w inv _ hr hy hS H
    have hun := (mem_ready.1 hr).1
    refine ⟨fun h => (by rw [h] at hr; cases hr), fun j hj => ?_⟩
    have hjm : j < m := by
      rcases Nat.lt_or_ge j m with h | h
      · exact h
      · exact absurd hj (tail_waits hs hc hn inv _ i rfl him hun j h)
    refine ⟨hjm, ?_⟩
    by_cases hji : j = i
    · subst hji; exact yieldsIf_wpOpIn hi hy hS ⟨hS, H⟩
    · have := H.1 j (ready_mono hj hji)
      omega
  | succ f ih =>
    intro listed a w inv hfree hr hy hS H
    have hun := (mem_ready.1 hr).1
    refine ⟨fun h => (by rw [h] at hr; cases hr), fun j hj => ?_⟩
    have hjm : j < m := by
      rcases Nat.lt_or_ge j m with h | h
      · exact h
      · exact absurd hj (tail_waits hs hc hn inv _ i rfl him hun j h)
    refine ⟨hjm, ?_⟩
    by_cases hji : j = i
    · subst hji; exact yieldsIf_wpOpIn hi hy hS ⟨hS, H⟩
    · have h1 := (H.2 j (ready_mono hj hji)).2
      obtain ⟨hjun, oj, hoj, hall⟩ := mem_ready.1 hj
      have hnot : ∀ e ∈ oj.after, Region.binds md e = true → e.on ≠ i := fun e he hb heq => by
        have h1 := hall e he hb
        rw [heq, getD_both hun] at h1
        cases h1
      have h2 := wpOpIn_putIf hoj (hfree j oj hoj hji hjun hnot) (fun cs b => hsel i oi cs b hi) (fun cs b => hsel j oj cs b hoj) hQ hy h1
      have hfree' : ∀ k ok, ops[k]? = some ok → k ≠ i → (listed.setIfInBounds j true).getD k true = false →
          (∀ e ∈ ok.after, Region.binds md e = true → e.on ≠ i) → oi.apart ops ok = true := fun k ok hk hki hun hno => by
        refine hfree k ok hk hki ?_ hno
        by_cases hjk : j = k
        · subst hjk; exact hjun
        · rw [getD_set_ne true hjk] at hun; exact hun
      refine wpOpIn_mono (fun a' w' h3 => ⟨h3.2.1, ih (listed.setIfInBounds j true) a' w' (inv.set hj hjm) hfree' (ready_mono hr (Ne.symm hji)) h3.1 h3.2.1 ?_⟩) h2
      rw [Array.setIfInBounds_comm _ _ hji]
      exact h3.2.2
/-- The head's plan: each is taken first. -/
def headOk (md : Region.Mode) (ops : Array Oper) (m : Nat) : List Nat → Array Bool → Bool
  | [], listed => (Region.ready md ops listed).all fun j => decide (m ≤ j)
  | i :: r, listed => decide (i < m) && Region.free md ops listed i && (Region.ready md ops listed).contains i && headOk md ops m r (listed.setIfInBounds i true)
def headSet (plan : List Nat) (listed : Array Bool) : Array Bool := plan.foldl (fun l i => l.setIfInBounds i true) listed
/-- The head, one after the other, in world w; then E. -/
def wpHd (P : Program) (ops : Array Oper) (w : World) (E : Act → Prop) : List Nat → Act → Prop
  | [], a => E a
  | i :: r, a => ∃ o v, ops[i]? = some o ∧ (if Region.wanted o (yielded ops a.tmps) = true then (execOp a.eval o).run P w = .ok (.value v) w else v = undef) ∧ wpHd P ops w E r (a.put o.dst v)
theorem wpHeadI_of_hd {m g : Nat} {w : World} (hsel : Region.noSelect ops = true) (hs : Region.sinkB md ops m = true) (hc : Region.chainB md ops m = true) (hn : m < ops.size)
    (hQ : ∀ c a d v w, Q (.panic c) (Act.put a d v) w → Q (.panic c) a w) :
    ∀ (plan : List Nat) (listed : Array Bool) (a : Act), HeadInv md ops m listed → headOk md ops m plan listed = true →
      wpHd P ops w (fun a => wpAnyIn Fence.wide n P md ops Q g (headSet plan listed) a w) plan a → wpHeadI n P md ops Q (fun w' => w' = w) m g plan.length listed a w
  | [], listed, a, _, ho, h => ⟨fun j hj => by simp only [headOk, List.all_eq_true, decide_eq_true_eq] at ho; exact ho j hj, h⟩
  | i :: r, listed, a, inv, ho, h => by
    simp only [headOk, Bool.and_eq_true, decide_eq_true_eq] at ho
    obtain ⟨o, v, hi, hy, hr⟩ := h
    have hrd : i ∈ Region.ready md ops listed := by simpa using ho.1.2
    refine wpHeadI_first hi (Region.noSelect_spec hsel) hs hc hn ho.1.1.1 (fun c a w => hQ c a _ _ w) _ listed a w inv (Region.free_spec hi ho.1.1.2) hrd ?_ rfl
      (wpHeadI_of_hd hsel hs hc hn hQ r _ _ (inv.set hrd ho.1.1.1) ho.2 hr)
    by_cases hw : Region.wanted o (yielded ops a.tmps) = true
    · exact .inl ⟨hw, fun w' hM => by subst hM; rwa [if_pos hw] at hy⟩
    · exact .inr ⟨by simpa using hw, by rwa [if_neg hw] at hy⟩
/-- The tail: each alone is left to come. -/
def tailOk (md : Region.Mode) (ops : Array Oper) : List Nat → Array Bool → Bool
  | [], listed => (Region.ready md ops listed).isEmpty
  | i :: r, listed => (Region.ready md ops listed == [i]) && tailOk md ops r (listed.setIfInBounds i true)
def wpTl (n : Nat) (P : Program) (ops : Array Oper) (Q : Exit → Act → World → Prop) : List Nat → Act → World → Prop
  | [], a, w => Q .normal a w
  | i :: r, a, w => wpOpIn Fence.wide n P ops Q i (wpTl n P ops Q r) a w
theorem wpAnyIn_of_tl : ∀ (plan : List Nat) (listed : Array Bool) (a : Act) (w : World), tailOk md ops plan listed = true → wpTl n P ops Q plan a w → wpAnyIn Fence.wide n P md ops Q plan.length listed a w
  | [], listed, a, w, ho, h => ⟨by simpa [tailOk] using ho, h⟩
  | i :: r, listed, a, w, ho, h => by
    simp only [tailOk, Bool.and_eq_true, beq_iff_eq] at ho
    refine ⟨fun h0 => absurd (ho.1.symm.trans h0) (by simp), fun j hj => ?_⟩
    rw [ho.1, List.mem_singleton] at hj
    subst hj
    exact wpOpIn_mono (fun a' w' x => wpAnyIn_of_tl r _ a' w' ho.2 x) h
/-- THE BEGINNING. -/
theorem region_tailI {id : Nat} {a : Act} {w : World} (m : Nat) (plan plan2 : List Nat) (hm : P.follows .mixedOrders = true)
    (ho : (Region.noSelect ops && decide (m < ops.size) && Region.sinkB .any ops m && Region.chainB .any ops m && (plan.length + plan2.length == ops.size)
      && headOk .any ops m plan (Array.replicate ops.size false) && tailOk .any ops plan2 (headSet plan (Array.replicate ops.size false))) = true)
    (hQ : ∀ c a d v w, Q (.panic c) (Act.put a d v) w → Q (.panic c) a w)
    (h : wpHd P ops w.drew (fun a => wpTl n P ops Q plan2 a w.drew) plan a) : (Code.region id ops true).wpIn Fence.wide n P Q a w := by
  simp only [Bool.and_eq_true, beq_iff_eq, decide_eq_true_eq] at ho
  obtain ⟨⟨⟨⟨⟨⟨hsel, hn⟩, hs⟩, hc⟩, hl⟩, h1⟩, h2⟩ := ho
  have inv0 : HeadInv .any ops m (Array.replicate ops.size false) :=
    ⟨by simp, fun j oj _ hl => (by rw [getD_replicate_false] at hl; cases hl), fun t _ ht => getD_in (by simpa using ht) (getD_replicate_false _ _)⟩
  have key : ∀ (pl : List Nat) (a : Act), wpHd P ops w.drew (fun a => wpTl n P ops Q plan2 a w.drew) pl a → wpHd P ops w.drew (fun a => wpAnyIn Fence.wide n P .any ops Q plan2.length (headSet plan (Array.replicate ops.size false)) a w.drew) pl a := by
    intro pl
    induction pl with
    | nil => intro a x; exact wpAnyIn_of_tl _ _ _ _ h2 x
    | cons i r ih => intro a ⟨o, v, x1, x2, x3⟩; exact ⟨o, v, x1, x2, ih _ x3⟩
  have := wpAnyIn_of_head _ _ _ _ (wpHeadI_of_hd (md := .any) (n := n) (Q := Q) (g := plan2.length) hsel hs hc hn hQ plan _ a inv0 h1 (key plan a h))
  rw [hl] at this
  exact wpIn_region_any hm this
theorem hd_yes {w : World} {E : Act → Prop} {i : Nat} {r : List Nat} {a : Act} {o : Oper} {v : Value} (hi : ops.toList[i]? = some o)
    (hw : Region.wanted o (yielded ops a.tmps) = true) (hy : (execOp a.eval o).run P w = .ok (.value v) w) (h : wpHd P ops w E r (a.put o.dst v)) : wpHd P ops w E (i :: r) a := ⟨o, v, of_toList hi, by rw [if_pos hw]; exact hy, h⟩
theorem hd_no {w : World} {E : Act → Prop} {i : Nat} {r : List Nat} {a : Act} {o : Oper} (hi : ops.toList[i]? = some o)
    (hw : Region.wanted o (yielded ops a.tmps) = false) (h : wpHd P ops w E r (a.put o.dst undef)) : wpHd P ops w E (i :: r) a := ⟨o, undef, of_toList hi, by rw [hw]; rfl, h⟩
theorem hd_end {w : World} {E : Act → Prop} {a : Act} (h : E a) : wpHd P ops w E [] a := h
theorem tl_yes {i : Nat} {r : List Nat} {a : Act} {w : World} {o : Oper} (hi : ops.toList[i]? = some o) (hw : Region.wanted o (yielded ops a.tmps) = true)
    (h : ∀ K : Act → World → Prop, (∀ a' w', wpTl n P ops Q r a' w' → K a' w') → o.wpIn Fence.wide n P a w K Q) : wpTl n P ops Q (i :: r) a w := by
  have := h _ (fun _ _ h => h)
  show wpOpIn Fence.wide n P ops Q i _ a w
  unfold wpOpIn
  simp only [of_toList hi, hw, if_true]
  exact this
theorem tl_no {i : Nat} {r : List Nat} {a : Act} {w : World} {o : Oper} (hi : ops.toList[i]? = some o) (hw : Region.wanted o (yielded ops a.tmps) = false)
    (h : wpTl n P ops Q r (a.put o.dst undef) w) : wpTl n P ops Q (i :: r) a w := by
  show wpOpIn Fence.wide n P ops Q i _ a w
  unfold wpOpIn
  simp only [of_toList hi, hw, Bool.false_eq_true, if_false]
  exact ⟨fun _ _ => trivial, h⟩
theorem tl_end {a : Act} {w : World} (h : Q .normal a w) : wpTl n P ops Q [] a w := h
end
end Go.Proofs.Ytgjecemmejaieaa

/-
  Live, an iterator; law 18's live: those that are, left off behind so many.
-/
namespace Go.Proofs.Ytgjecemmejaieaa
open Go.RowKit Go.Shelf
attribute [local go_sem] Oper.semAt_some
theorem run_equalIn_func_nilP {P : Program} (w : World) (d : Nat) (t : TypeId) {ps rs : Array TypeId} {v : Bool} (fn : Fn) (fi ca : Array Value) (h : P.underlying t = some (.func ps rs v)) :
    (Op.equalIn (d + 1) t (.func fn fi ca) .nilFunc).run P w = .ok false w := by
  simp [Op.equalIn, run_underlying h]
/-- 'f == nil', f a function's value. -/
theorem run_eql_func_nilP {P : Program} (w : World) (t : TypeId) {ps rs : Array TypeId} {v : Bool} (fn : Fn) (fi ca : Array Value) (h : P.underlying t = some (.func ps rs v)) :
    (binOp .eql t (.func fn fi ca) .nilFunc).run P w = .ok (.bool false) w := by
  simp only [binOp]
  simp [Op.equal, Op.maxDepth, run_equalIn_func_nilP w 9999 t fn fi ca h]
/-- A struct of cells, unturned by whatever turns no cells. -/
theorem at_ownP {β : Type} (B : Nat) (t : TypeId) (cs : Array Value) : Own (fun (_ : β) W => At W B t cs) := fun s X Y row hs hg hrow =>
  (hg.block B (At.lt hs) (fun e' => by obtain ⟨o, ho, hc⟩ := hrow B e'.symm; rw [show X.heap[B]? = _ from hs] at ho; cases ho; cases hc)).trans hs
theorem cells_newP (w : World) (cs : Array Value) (t : TypeId) : ∀ j u, cs.toList[j]? = some u → (w.alloc (.cells cs t)).cell? ((⟨w.heap.size, 0, none⟩ : Addr).add j) = some u := by
  intro j u hj
  have := (At.new w t cs).cell j
  rw [Array.getElem?_toList] at hj
  rw [← hj, ← this]
  by_cases h0 : j = 0 <;> simp [Addr.add, h0]
theorem At.keptP {W W' : World} {row : Option Nat} {B : Nat} {t : TypeId} {cs : Array Value} (h : At W B t cs) (hg : W.grownBy W' row) (hne : some B ≠ row) : At W' B t cs := (hg.block B h.lt hne).trans h
theorem At.not_rowP {W : World} {B : Nat} {t e : TypeId} {cs : Array Value} (h : At W B t cs) (hte : t ≠ e) {base size k : Nat} {v : Value} {xs : List Value} (hr : W.ownsRow base e size v k xs) : some B ≠ v.ownBlock := by
  rcases hr.2 with ⟨rfl, _⟩ | ⟨g, cap, cur, rfl, _, hgb, _⟩
  · simp [Value.ownBlock]
  · intro e'
    obtain rfl : B = g := by simpa [Value.ownBlock] using e'
    have := (show W.heap[B]? = _ from h).symm.trans hgb
    simp at this
    exact hte this.2
theorem at_otherP {W : World} {B B' : Nat} {t : TypeId} {cs : Array Value} (h : At W B t cs) (hne : B ≠ B') (u : Value) : At (W.setCell ⟨B', 0, none⟩ u) B t cs := h.far hne u
theorem not_row2P {W : World} {B : Nat} {t e : TypeId} {u : Value} (_ : Boxed W B t u) {base size k : Nat} {v : Value} {xs : List Value} (hr : W.ownsRow base e size v k xs) (hB : B < base) : some B ≠ v.ownBlock := by
  rcases hr.2 with ⟨rfl, _⟩ | ⟨g, cap, cur, rfl, hg, _, _⟩
  · simp [Value.ownBlock]
  · intro e'
    obtain rfl : B = g := by simpa [Value.ownBlock] using e'
    omega
theorem appended2P {W w1 : World} {n₀ b₀ B : Nat} {t e : TypeId} {size : Nat} {v v' : Value} {k m : Nat} {xs ys : List Value} {tmp : Obj}
    (hv : Boxed W B t v) (hte : t ≠ e) (hrow : W.ownsRow b₀ e size v k xs) (hn₀ : n₀ ≤ W.heap.size) (hb₀ : n₀ ≤ b₀) (hB : n₀ ≤ B)
    (hown' : w1.ownsRow b₀ e size v' m ys) (hgrow : (W.alloc tmp).grownBy w1 v.ownBlock) :
    Boxed w1 B t v ∧ Boxed (w1.setCell ⟨B, 0, none⟩ v') B t v' ∧ (w1.setCell ⟨B, 0, none⟩ v').ownsRow b₀ e size v' m ys ∧ KeepsOthers W (w1.setCell ⟨B, 0, none⟩ v') ∧ Below n₀ W (w1.setCell ⟨B, 0, none⟩ v') := by
  have hv1 : Boxed w1 B t v := (hv.alloc tmp).kept hgrow (hv.not_row hte hrow)
  refine ⟨hv1, hv1.set v', hown'.kept (grownBy_setCell' w1 B v') (.inr (hv1.not_row hte hown').symm), ?_, ?_⟩
  · refine ((KeepsOthers.alloc W tmp).trans (KeepsOthers.of_grownBy hgrow fun j o ej hj => ?_)).trans (KeepsOthers.setCell _ _ _)
    rcases (hrow.alloc tmp).2 with ⟨rfl, _⟩ | ⟨g, cap, cur, rfl, _, hgb, _⟩
    · simp [Value.ownBlock] at ej
    · obtain rfl : g = j := by simpa [Value.ownBlock] using ej
      rw [hgb] at hj; cases hj; rfl
  · refine (((Below.refl n₀ W).alloc hn₀ tmp).grown hgrow (by simp; omega) fun j ej => ?_).setCell (p := ⟨B, 0, none⟩) hB v'
    rcases hrow.2 with ⟨rfl, _⟩ | ⟨g, cap, cur, rfl, hb, _, _⟩
    · simp [Value.ownBlock] at ej
    · obtain rfl : g = j := by simpa [Value.ownBlock] using ej
      omega
/-- The live ones of the first so many. -/
def liveTo (vs : List V) (now : Nat) (i : Nat) : List Nat := (List.range i).filter fun v : Nat => liveB vs now (v : Int)
theorem liveTo_yes {vs : List V} {now : Nat} {i : Nat} (h : liveB vs now (i : Int) = true) : liveTo vs now (i + 1) = liveTo vs now i ++ [i] := by
  unfold liveTo; rw [List.range_succ, List.filter_append]; simp [h]
theorem liveTo_no {vs : List V} {now : Nat} {i : Nat} (h : liveB vs now (i : Int) = false) : liveTo vs now (i + 1) = liveTo vs now i := by
  unfold liveTo; rw [List.range_succ, List.filter_append]; simp [h]
theorem liveTo_length (vs : List V) (now : Nat) (i : Nat) : (liveTo vs now i).length ≤ i := by
  unfold liveTo; exact Nat.le_trans (List.length_filter_le _ _) (by simp)
theorem liveTo_prefix (vs : List V) (now : Nat) {k m : Nat} (h : k ≤ m) : liveTo vs now k <+: liveTo vs now m := by
  obtain ⟨d, rfl⟩ := Nat.exists_eq_add_of_le h
  induction d with
  | zero => exact List.prefix_refl _
  | succ d ih =>
    refine (ih (by omega)).trans ?_
    unfold liveTo
    rw [show k + (d + 1) = (k + d) + 1 by omega, List.range_succ, List.filter_append]
    exact List.prefix_append _ _
/-- What is left off behind so many; below 0: never. -/
def cutP (most : Int) (xs : List Nat) : List Nat := if most < 0 then xs else xs.take most.toNat
def lvEnc (i : Nat) : Array Value := #[.int .i64 i]
def KpP (n₀ B1 : Nat) (A B : World) : Prop := Below n₀ A B ∧ B.heap[B1]? = A.heap[B1]?
theorem KpP.t {n₀ B1 : Nat} {A B C : World} (h : KpP n₀ B1 A B) (k : KpP n₀ B1 B C) : KpP n₀ B1 A C := ⟨h.1.trans k.1, k.2.trans h.2⟩
theorem KpP.b {n₀ B1 : Nat} {w : World} (hn : n₀ ≤ w.heap.size) (h1 : B1 < w.heap.size) (W : World) (l : Nat) (o o' : Obj) (hl : w.heap.size ≤ l) (h : W.heap[l]? = some o) (q1 : o.isCells = false) (q2 : o.isWalk = false) : KpP n₀ B1 W (W.putObj l o') :=
  ⟨belowK_b hn W l o o' hl h q1 q2, World.putObj_heap_other (by omega)⟩
theorem KpP.refl (n₀ B1 : Nat) (A : World) : KpP n₀ B1 A A := ⟨Below.refl _ _, rfl⟩
theorem lv_snoc (pre : List Nat) (x : Nat) : i64s ((pre ++ [x]).map fun p : Nat => (p : Int)) = i64s (pre.map fun p : Nat => (p : Int)) ++ [.int .i64 (x : Nat)] := by simp [i64s]
end Go.Proofs.Ytgjecemmejaieaa

/-
  alike.Dips, alike.Members: two lists held against each other.
-/
namespace Go.Proofs.Ytgjecemmejaieaa
open Go.RowKit Go.Shelf
/-- A weight that fits a number of the machine. -/
def wOk (x : Mb) : Prop := -9223372036854775808 ≤ x.w ∧ x.w ≤ 9223372036854775807
theorem Mb.inj {a b : Mb} (h : mc a = mc b) : a = b := by
  have h := congrArg Array.toList h
  simp only [mc, Mb.l] at h
  obtain ⟨h1, h2⟩ := List.append_inj h (by rw [Dp.l_length, Dp.l_length])
  obtain ⟨x, p⟩ := a
  obtain ⟨y, q⟩ := b
  have h1 : dc x = dc y := by unfold dc; rw [h1]
  obtain rfl := Dp.inj h1
  simp only [List.cons.injEq, Value.int.injEq, true_and, and_true] at h2
  rw [h2]
instance : DecidableEq Mb := fun a b => if h : a.d = b.d ∧ a.w = b.w then .isTrue (by
  obtain ⟨d, w⟩ := a
  obtain ⟨d', w'⟩ := b
  simp only at h
  obtain ⟨rfl, rfl⟩ := h
  rfl) else .isFalse (fun e => h (by rw [e]; exact ⟨rfl, rfl⟩))
theorem cellsMb : Try.prog.cellsOf 108 = 19 := by kernel_rfl
theorem cellsInt : Try.prog.cellsOf 3 = 1 := by kernel_rfl
theorem key_dipD (d : Dp) (D : Nat) : ∃ l, Try.prog.keyLits (D + 4) 88 d.l = some l := by
  refine kl_struct Try.underlying88 (D + 3) (by rw [Dp.l_length, cellsDp]) (by kernel_rfl) fun f hf => ?_
  simp only [List.mem_cons, List.not_mem_nil, or_false] at hf
  rcases hf with rfl | rfl
  · simp only [cellsA, Dp.l]
    have : ((d.a.l ++ [Value.int .u16 (d.port : Nat)]).drop 0).take 17 = d.a.l := by
      rw [List.drop_zero, List.take_append_of_le_length (by rw [Adr.l_length]; exact Nat.le_refl _), List.take_of_length_le (by rw [Adr.l_length]; exact Nat.le_refl _)]
    rw [this]
    exact key_adr d.a D
  · simp only [cellsU16, Dp.l]
    have : ((d.a.l ++ [Value.int .u16 (d.port : Nat)]).drop 17).take 1 = [.int .u16 (d.port : Nat)] := by
      rw [List.drop_append_of_le_length (by rw [Adr.l_length]; exact Nat.le_refl _), List.drop_of_length_le (by rw [Adr.l_length]; exact Nat.le_refl _)]; rfl
    rw [this]
    exact kl_int Try.underlying55 (D + 2) (wf_u16' d.hp)
theorem key_mb (m : Mb) (hw : wOk m) : KeyV Try.prog 108 (.agg (mc m)) := by
  have h : ∃ l, Try.prog.keyLits (Try.prog.types.size + 1) 108 m.l = some l := by
    obtain ⟨D, hD⟩ : ∃ D, Try.prog.types.size + 1 = D + 5 := ⟨Try.prog.types.size - 4, by have : 4 ≤ Try.prog.types.size := of_decide_eq_true (by kernel_rfl); omega⟩
    rw [hD]
    refine kl_struct Try.underlying108 (D + 4) (by rw [Mb.len, cellsMb]) (by kernel_rfl) fun f hf => ?_
    simp only [List.mem_cons, List.not_mem_nil, or_false] at hf
    rcases hf with rfl | rfl
    · simp only [cellsDp, Mb.l]
      have : ((m.d.l ++ [Value.int .i64 m.w]).drop 0).take 18 = m.d.l := by
        rw [List.drop_zero, List.take_append_of_le_length (by rw [Dp.l_length]; exact Nat.le_refl _), List.take_of_length_le (by rw [Dp.l_length]; exact Nat.le_refl _)]
      rw [this]
      exact key_dipD m.d D
    · simp only [cellsInt, Mb.l]
      have : ((m.d.l ++ [Value.int .i64 m.w]).drop 18).take 1 = [.int .i64 m.w] := by
        rw [List.drop_append_of_le_length (by rw [Dp.l_length]; exact Nat.le_refl _), List.drop_of_length_le (by rw [Dp.l_length]; exact Nat.le_refl _)]; rfl
      rw [this]
      exact kl_int Try.underlying3 (D + 3) (by unfold wOk at hw; simp [Lit.wf, IntKind.min, IntKind.max, IntKind.signed, IntKind.bits]; omega)
  obtain ⟨l, hl⟩ := h
  refine ⟨.string (keyBytes l), ?_⟩
  unfold Go.keyOf
  have e1 : Try.prog.keyType 108 = true := by kernel_rfl
  have e2 : (Value.agg (mc m)).formed Try.prog 108 = true := by
    simp only [Value.formed, Try.underlying108, mc_size, cellsMb]; rfl
  rw [Try.underlying108]
  simp only [e1, e2, Bool.and_self, if_true]
  rw [show (Value.agg (mc m)).cells.toList = m.l by simp [Value.cells, mc], hl]; rfl
theorem mbLaw : WideMaps.KeyLaw Try.prog 108 := deep_law_laid laidD (m := 6) (by omega) (of_decide_eq_true (by kernel_rfl)) (by kernel_rfl) (by kernel_rfl)
theorem mbKey6 : Try.prog.keyTypeAt 6 108 = true := by kernel_rfl
/-- Two members set side by side. -/
theorem eqMb (a b : Mb) (hwa : wOk a) (hwb : wOk b) (w : World) : (Op.equalIn 10000 108 (.agg (mc a)) (.agg (mc b))).run Try.prog w = .ok (decide (a = b)) w := by
  obtain ⟨la, ha⟩ := key_mb a hwa
  obtain ⟨lb, hb⟩ := key_mb b hwb
  obtain ⟨r, hr, hi⟩ := run_equal_deep (P := Try.prog) w (m := 6) (by omega) mbKey6 (by kernel_rfl) ha hb
  have e : r = decide (a = b) := by
    rw [Bool.eq_iff_iff, hi, decide_eq_true_iff]
    constructor
    · rintro rfl
      have := mbLaw.inj ha hb
      simp only [Value.agg.injEq] at this
      exact Mb.inj this
    · rintro rfl
      rw [ha] at hb
      exact Option.some.inj hb
  rw [← e]
  exact hr
theorem mb_guard : Try.prog.eqGuardType Try.prog.depth 108 = false := by kernel_rfl
attribute [local go_sem] mb_guard
end Go.Proofs.Ytgjecemmejaieaa

/-
  Small facts on pools: the statements' members may be; which version comes next; configurations with one number turned.
-/
namespace Go.Proofs.Ytgjecemmejaieaa
open Go.RowKit Go.Shelf
theorem mGo_of : ∀ (L : List Mb) (met : List Dp), (∀ x ∈ L, vld x.d.a = true ∧ 1 ≤ x.w ∧ x.w ≤ 16 ∧ x.d ∉ met) → L.Pairwise (fun x y => x.d ≠ y.d) → mGo met L = true
  | [], _, _, _ => rfl
  | x :: r, met, h, hp => by
    obtain ⟨h1, h2, h3, h4⟩ := h x (by simp)
    rw [List.pairwise_cons] at hp
    have ih := mGo_of r (met ++ [x.d]) (fun y hy => by
      obtain ⟨g1, g2, g3, g4⟩ := h y (by simp [hy])
      refine ⟨g1, g2, g3, fun hm => ?_⟩
      rcases List.mem_append.1 hm with hm | hm
      · exact g4 hm
      · exact hp.1 y hy (List.mem_singleton.1 hm).symm) hp.2
    unfold mGo mStep
    rw [h1, decide_eq_false h4, decide_eq_true h2, decide_eq_true h3, ih]; rfl
theorem adp_vld (n : Nat) : vld (adp n).a = true := rfl
theorem adp_inj {m n : Nat} (hm : m < 200) (hn : n < 200) (h : adp m = adp n) : m = n := by
  have h2 := congrArg (fun d : Dp => d.a.b) h
  simp only [adp, List.cons.injEq, and_true, true_and] at h2
  omega
theorem som_len (f n : Int) : (som f n).length = (n % 6).toNat := by simp [som]
theorem som_w (f n : Int) : ∀ x ∈ som f n, 1 ≤ x.w ∧ x.w ≤ 16 := by
  intro x hx
  obtain ⟨i, _, rfl⟩ := List.mem_map.1 hx
  simp only
  omega
theorem som_ok (f n : Int) : mOk (som f n) = true := by
  have h5 : (f % 5).toNat < 5 := by omega
  have h6 : (n % 6).toNat < 6 := by omega
  unfold mOk
  rw [som_len, decide_eq_true (by omega), Bool.true_and]
  refine mGo_of _ _ (fun x hx => ?_) ?_
  · obtain ⟨i, _, rfl⟩ := List.mem_map.1 hx
    exact ⟨adp_vld _, by simp only; omega, by simp only; omega, by simp⟩
  · unfold som
    rw [List.pairwise_map]
    refine List.Pairwise.imp_of_mem (fun ha hb hab => ?_) (List.pairwise_lt_range (n := (n % 6).toNat))
    have ha := List.mem_range.1 ha
    have hb := List.mem_range.1 hb
    intro he
    have := adp_inj (by omega) (by omega) he
    omega
theorem mOk_nil : mOk [] = true := rfl
theorem wOk_of {x : Mb} (h : 1 ≤ x.w ∧ x.w ≤ 16) : wOk x := ⟨by omega, by omega⟩
def Cf.setV (c : Cf) (v : Int) : Cf := { c with versions := v }
def Cf.setS (c : Cf) (v : Int) : Cf := { c with slots := v }
theorem cc_setV (c : Cf) (v : Int) : (cc c).setIfInBounds 6 (.int .i64 v) = cc (c.setV v) := by
  unfold cc
  rw [List.setIfInBounds_toArray]
  congr 1
theorem cc_setS (c : Cf) (v : Int) : (cc c).setIfInBounds 5 (.int .i64 v) = cc (c.setS v) := by
  unfold cc
  rw [List.setIfInBounds_toArray]
  congr 1
/-- A row of integers that was laid. -/
theorem Ints.at {w : World} {g : Nat} {t : TypeId} {l : List Int} (h : At w g t (i64s l).toArray) : Ints w (some ⟨g, 0, none⟩) l.length l := by
  refine ⟨rfl, fun _ => ⟨g, 0, rfl, h.lt, fun i hi => ?_⟩⟩
  rw [Nat.zero_add, h.cell]
  simp [i64s, List.getD_eq_getElem?_getD, List.getElem?_eq_getElem hi]
variable {w w' w0 : World} {B p t : Nat} {c : Cf} {vs : List V} {now : Nat} {lv sv : Value} {L : List Mb} {S : List Dp}
theorem Md.bel (h : Po w B p t c vs now lv L sv S) (hB : w0.heap.size ≤ B) (hb : Below w0.heap.size w0 w) (hm : Md p t w w') : Below w0.heap.size w0 w' :=
  hb.trans (mod_below hm hb.size (fun i hi => by
    rcases hi with rfl | rfl
    · exact Nat.le_trans hB h.bp
    · exact Nat.le_trans hB h.bt))
theorem first_is {f : Nat → Bool} {v k : Nat} (h1 : ∀ i, i < v → f i = true) (h2 : f k = false) (h3 : f v = false) (h4 : ∀ i, i < k → f i = true) : v = k := by
  rcases Nat.lt_trichotomy v k with h | h | h
  · rw [h4 v h] at h3; cases h3
  · exact h
  · rw [h1 k h] at h2; cases h2
/-- Where one is free: the first one is made anew. -/
theorem reserve_at (am : Option Addr) (nm cm B2 n k : Nat) (M : List Mb) (h : Po w B p t c vs now lv L sv S) (hM : Sl 19 Mb.l 108 w B2 (.slice am nm cm) M) (hok : mOk M = true) (hn : c.slots = n) (h1 : 1 ≤ n) (h2 : n ≤ 64) (hS : S.length = 0 ∨ S.length = n)
    (hk : k < vs.length) (hk1 : ∀ i : Nat, i < k → liveB vs now i = true) (hk2 : liveB vs now k = false) :
    Calls Try.prog 29 #[.pointer (some ⟨p, 0, none⟩), .slice am nm cm] w fun e w' => e = .returned (.tuple #[.int .i64 (k : Nat), .int .i64 0]) ∧ ∃ lv' sv', Po w' B p t c (vs.set k ⟨sv', fillR S M n, 0, true⟩) now lv' M sv' (fillR S M n) ∧ Md p t w w' := by
  refine (reserve_any am nm cm B2 n M h hM hok hn h1 h2 hS).mono ?_
  rintro e w' ⟨v, hv, ha, ⟨hl, _, _⟩ | ⟨hl, hnl, he, hr⟩⟩
  · have := ha k (by omega)
    rw [hk2] at this
    cases this
  · obtain rfl := first_is (f := fun i : Nat => liveB vs now (i : Int)) ha hk2 hnl hk1
    exact ⟨he, hr⟩
/-- Where none is free. -/
theorem reserve_full (am : Option Addr) (nm cm B2 n : Nat) (M : List Mb) (h : Po w B p t c vs now lv L sv S) (hM : Sl 19 Mb.l 108 w B2 (.slice am nm cm) M) (hok : mOk M = true) (hn : c.slots = n) (h1 : 1 ≤ n) (h2 : n ≤ 64) (hS : S.length = 0 ∨ S.length = n)
    (hk1 : ∀ i : Nat, i < vs.length → liveB vs now i = true) :
    Calls Try.prog 29 #[.pointer (some ⟨p, 0, none⟩), .slice am nm cm] w fun e w' => e = .returned (.tuple #[.int .i64 0, .int .i64 3]) ∧ Below w.heap.size w w' := by
  refine (reserve_any am nm cm B2 n M h hM hok hn h1 h2 hS).mono ?_
  rintro e w' ⟨v, hv, ha, ⟨_, he, hb⟩ | ⟨hl, hnl, _, _⟩⟩
  · exact ⟨he, hb⟩
  · rw [hk1 v hl] at hnl; cases hnl
end Go.Proofs.Ytgjecemmejaieaa

/-
  A pool as a record; what stays of it where others turn.
-/
namespace Go.Proofs.Ytgjecemmejaieaa
open Go.RowKit
structure Pd where
  p : Nat
  t : Nat
  vs : List V
  now : Nat
  lv : Value
  L : List Mb
  sv : Value
  S : List Dp
  B : Nat
abbrev Pd.P (d : Pd) (w : World) (c : Cf) : Prop := Po w d.B d.p d.t c d.vs d.now d.lv d.L d.sv d.S
theorem Sl.at {α : Type} {k : Nat} {enc : α → List Value} {e : TypeId} {w : World} {B : Nat} {v : Value} {L : List α} (h : Sl k enc e w B v L) {g : Nat} (hg : v.ownBlock = some g) : ∃ cur, At w g e cur := by
  rcases h.cases with ⟨h1, _⟩ | ⟨g', c, cur, h1, _, h3, _⟩
  · rw [h1] at hg; simp [Value.ownBlock] at hg
  · rw [h1] at hg
    simp only [Value.ownBlock, Option.some.injEq] at hg
    exact ⟨cur, hg ▸ h3⟩
/-- A pool stays where others turn. -/
theorem Po.away {w w' : World} {B p t : Nat} {c : Cf} {vs : List V} {now : Nat} {lv sv : Value} {L : List Mb} {S : List Dp} (h : Po w B p t c vs now lv L sv S) {M : Nat → Prop} (hm : Mod M w w') (hp : ¬ M p) (ht : ¬ M t)
    (hd : ∀ g cs, At w g 88 cs → ¬ M g) (hb : ∀ g cs, At w g 108 cs → ¬ M g) : Po w' B p t c vs now lv L sv S where
  obj := h.obj.mod hm hp
  arr := h.arr.mod hm fun g hg => by
    simp only [Value.ownBlock, Option.some.injEq] at hg
    exact hg ▸ ht
  bp := h.bp
  vers := fun v hv => (h.vers v hv).mod hm fun g hg => by
    obtain ⟨cs, hc⟩ := (h.vers v hv).at hg
    exact hd g cs hc
  last := h.last.mod hm fun g hg => by
    obtain ⟨cs, hc⟩ := h.last.at hg
    exact hb g cs hc
  sl := h.sl.mod hm fun g hg => by
    obtain ⟨cs, hc⟩ := h.sl.at hg
    exact hd g cs hc
  lt := h.lt
  big := h.big
end Go.Proofs.Ytgjecemmejaieaa

/-
  A load of a whole array or struct, one step, inside a fence.
-/
namespace Go.Proofs.Ytgjecemmejaieaa
open Go.RowKit
theorem wpListIn_load_part {F : Fence} {n : Nat} {P : Program} {w : World} {ops : Array Oper} {rest : List Oper} {o : Oper} {a : Act} {Q : Exit → Act → World → Prop}
    (hg : o.guard = none) (ty : TypeId) (x : Operand) (hop : o.op = .load ty x) (d : TypeDesc) (k : Nat) (hu : P.underlying ty = some d) (hd : (match d with | .struct _ | .array _ _ => true | _ => false) = true)
    (hi : (P.info? ty).map (·.size) = some k) (b off : Nat) (t : TypeId) (cs : Array Value) (hx : a.eval x = .pointer (some ⟨b, off, none⟩)) (h : At w b t cs) (hs : off + k ≤ cs.size)
    (hK : wpListIn F n P ops Q rest (a.put o.dst (.agg (cs.extract off (off + k)))) w) : wpListIn F n P ops Q (o :: rest) a w := by
  refine wpListIn_plain hg fun K hK' => ?_
  have hr := loadAt_part (P := P) ty d k hu hd hi w b off h.open (by rw [h.row]; exact hs)
  rw [h.row] at hr
  unfold Oper.wpIn
  refine ⟨?_, ?_⟩
  · simp [Oper.about, hop]
  · rw [Oper.semAt_plain F _ _ (by rw [hop]; intro c hc'; cases hc')]
    simp [execOp, hop, hx, hr]
    exact hK' _ _ hK
/-- .. an operation that waits for a test, and is wanted. -/
theorem wpListIn_load_want {F : Fence} {n : Nat} {P : Program} {w : World} {ops : Array Oper} {rest : List Oper} {o : Oper} {a : Act} {Q : Exit → Act → World → Prop}
    (hw : Region.wanted o (yielded ops a.tmps) = true) (ty : TypeId) (x : Operand) (hop : o.op = .load ty x) (d : TypeDesc) (k : Nat) (hu : P.underlying ty = some d) (hd : (match d with | .struct _ | .array _ _ => true | _ => false) = true)
    (hi : (P.info? ty).map (·.size) = some k) (b off : Nat) (t : TypeId) (cs : Array Value) (hx : a.eval x = .pointer (some ⟨b, off, none⟩)) (h : At w b t cs) (hs : off + k ≤ cs.size)
    (hK : wpListIn F n P ops Q rest (a.put o.dst (.agg (cs.extract off (off + k)))) w) : wpListIn F n P ops Q (o :: rest) a w := by
  refine wpListIn_step fun K hK' => ?_
  rw [if_pos hw]
  have hr := loadAt_part (P := P) ty d k hu hd hi w b off h.open (by rw [h.row]; exact hs)
  rw [h.row] at hr
  unfold Oper.wpIn
  refine ⟨?_, ?_⟩
  · simp [Oper.about, hop]
  · rw [Oper.semAt_plain F _ _ (by rw [hop]; intro c hc'; cases hc')]
    simp [execOp, hop, hx, hr]
    exact hK' _ _ hK
end Go.Proofs.Ytgjecemmejaieaa
