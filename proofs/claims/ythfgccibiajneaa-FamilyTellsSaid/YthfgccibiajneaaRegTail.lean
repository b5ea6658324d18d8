/-
  Plain machinery over any program: a region inside the wide fence whose head only computes and reads, and whose last operations (a call of 'yield', say) wait for all of the head: behind them nothing that was read need be kept.
-/
import Derived.Test.YthfgccibiajneaaRegIn
import Derived.StillTail
namespace Go.Proofs.Ythfgccibiajneaa
open Go.RowKit
section
variable {n : Nat} {P : Program} {ops : Array Oper} {Q : Exit → Act → World → Prop} {md : Region.Mode} {S : World → Prop}
/-- The head's orders, S held behind each; behind the head: whatever order. -/
def wpHeadI (n : Nat) (P : Program) (md : Region.Mode) (ops : Array Oper) (Q : Exit → Act → World → Prop) (S : World → Prop) (m g : Nat) : Nat → Array Bool → Act → World → Prop
  | 0, listed, a, w => (∀ j ∈ Region.ready md ops listed, m ≤ j) ∧ wpAnyIn Fence.wide n P md ops Q g listed a w
  | f + 1, listed, a, w => Region.ready md ops listed ≠ [] ∧ ∀ i ∈ Region.ready md ops listed, i < m ∧ wpOpIn Fence.wide n P ops Q i (fun a' w' => S w' ∧ wpHeadI n P md ops Q S m g f (listed.setIfInBounds i true) a' w') a w
theorem wpAnyIn_of_head {m g : Nat} : ∀ (f : Nat) (listed : Array Bool) (a : Act) (w : World), wpHeadI n P md ops Q S m g f listed a w → wpAnyIn Fence.wide n P md ops Q (f + g) listed a w
  | 0, listed, a, w, h => by rw [Nat.zero_add]; exact h.2
  | f + 1, listed, a, w, h => by
    rw [show f + 1 + g = (f + g) + 1 by omega]
    exact ⟨fun h0 => absurd h0 h.1, fun i hi => wpOpIn_mono (fun a' w' x => wpAnyIn_of_head f _ a' w' x.2) (h.2 i hi).2⟩
theorem wpHeadI_first {m g i : Nat} {oi : Oper} {v : Value} (hi : ops[i]? = some oi) (hsel : ∀ (j : Nat) (o : Oper) cs b, ops[j]? = some o → o.op ≠ .select cs b)
    (hs : Region.sinkB md ops m = true) (hc : Region.chainB md ops m = true) (hn : m < ops.size) (him : i < m)
    (hQ : ∀ c a w, Q (.panic c) (a.put oi.dst v) w → Q (.panic c) a w) :
    ∀ (f : Nat) (listed : Array Bool) (a : Act) (w : World), HeadInv md ops m listed →
      (∀ j oj, ops[j]? = some oj → j ≠ i → listed.getD j true = false → (∀ e ∈ oj.after, Region.binds md e = true → e.on ≠ i) → oi.apart ops oj = true) →
      i ∈ Region.ready md ops listed → YieldsIf P ops S oi v a → S w →
      wpHeadI n P md ops Q S m g f (listed.setIfInBounds i true) (a.put oi.dst v) w → wpHeadI n P md ops Q S m g (f + 1) listed a w := by
  intro f
  induction f with
  | zero =>
    intro listed a w inv _ hr hy hS H
    have hun := (mem_ready.1 hr).1
    refine ⟨fun h => (by rw [h] at hr; cases hr), fun j hj => ?_⟩
    have hjm : j < m := by
      rcases Nat.lt_or_ge j m with h | h
      · exact h
      · exact absurd hj (tail_waits hs hc hn inv _ i rfl him hun j h)
    refine ⟨hjm, ?_⟩
    by_cases hji : j = i
    · subst hji; exact yieldsIf_wpOpIn hi hy hS ⟨hS, H⟩
    · have := H.1 j (ready_mono hj hji)
      omega
  | succ f ih =>
    intro listed a w inv hfree hr hy hS H
    have hun := (mem_ready.1 hr).1
    refine ⟨fun h => (by rw [h] at hr; cases hr), fun j hj => ?_⟩
    have hjm : j < m := by
      rcases Nat.lt_or_ge j m with h | h
      · exact h
      · exact absurd hj (tail_waits hs hc hn inv _ i rfl him hun j h)
    refine ⟨hjm, ?_⟩
    by_cases hji : j = i
    · subst hji; exact yieldsIf_wpOpIn hi hy hS ⟨hS, H⟩
    · have h1 := (H.2 j (ready_mono hj hji)).2
      obtain ⟨hjun, oj, hoj, hall⟩ := mem_ready.1 hj
      have hnot : ∀ e ∈ oj.after, Region.binds md e = true → e.on ≠ i := fun e he hb heq => by
        have h1 := hall e he hb
        rw [heq, getD_both hun] at h1
        cases h1
      have h2 := wpOpIn_putIf hoj (hfree j oj hoj hji hjun hnot) (fun cs b => hsel i oi cs b hi) (fun cs b => hsel j oj cs b hoj) hQ hy h1
      have hfree' : ∀ k ok, ops[k]? = some ok → k ≠ i → (listed.setIfInBounds j true).getD k true = false →
          (∀ e ∈ ok.after, Region.binds md e = true → e.on ≠ i) → oi.apart ops ok = true := fun k ok hk hki hun hno => by
        refine hfree k ok hk hki ?_ hno
        by_cases hjk : j = k
        · subst hjk; exact hjun
        · rw [getD_set_ne true hjk] at hun; exact hun
      refine wpOpIn_mono (fun a' w' h3 => ⟨h3.2.1, ih (listed.setIfInBounds j true) a' w' (inv.set hj hjm) hfree' (ready_mono hr (Ne.symm hji)) h3.1 h3.2.1 ?_⟩) h2
      rw [Array.setIfInBounds_comm _ _ hji]
      exact h3.2.2
/-- The head's plan: each is taken first. -/
def headOk (md : Region.Mode) (ops : Array Oper) (m : Nat) : List Nat → Array Bool → Bool
  | [], listed => (Region.ready md ops listed).all fun j => decide (m ≤ j)
  | i :: r, listed => decide (i < m) && Region.free md ops listed i && (Region.ready md ops listed).contains i && headOk md ops m r (listed.setIfInBounds i true)
def headSet (plan : List Nat) (listed : Array Bool) : Array Bool := plan.foldl (fun l i => l.setIfInBounds i true) listed
/-- The head, one after the other, in world w; then E. -/
def wpHd (P : Program) (ops : Array Oper) (w : World) (E : Act → Prop) : List Nat → Act → Prop
  | [], a => E a
  | i :: r, a => ∃ o v, ops[i]? = some o ∧ (if Region.wanted o (yielded ops a.tmps) = true then (execOp a.eval o).run P w = .ok (.value v) w else v = undef) ∧ wpHd P ops w E r (a.put o.dst v)
theorem wpHeadI_of_hd {m g : Nat} {w : World} (hsel : Region.noSelect ops = true) (hs : Region.sinkB md ops m = true) (hc : Region.chainB md ops m = true) (hn : m < ops.size)
    (hQ : ∀ c a d v w, Q (.panic c) (Act.put a d v) w → Q (.panic c) a w) :
    ∀ (plan : List Nat) (listed : Array Bool) (a : Act), HeadInv md ops m listed → headOk md ops m plan listed = true →
      wpHd P ops w (fun a => wpAnyIn Fence.wide n P md ops Q g (headSet plan listed) a w) plan a → wpHeadI n P md ops Q (fun w' => w' = w) m g plan.length listed a w
  | [], listed, a, _, ho, h => ⟨fun j hj => by simp only [headOk, List.all_eq_true, decide_eq_true_eq] at ho; exact ho j hj, h⟩
  | i :: r, listed, a, inv, ho, h => by
    simp only [headOk, Bool.and_eq_true, decide_eq_true_eq] at ho
    obtain ⟨o, v, hi, hy, hr⟩ := h
    have hrd : i ∈ Region.ready md ops listed := by simpa using ho.1.2
    refine wpHeadI_first hi (Region.noSelect_spec hsel) hs hc hn ho.1.1.1 (fun c a w => hQ c a _ _ w) _ listed a w inv (Region.free_spec hi ho.1.1.2) hrd ?_ rfl
      (wpHeadI_of_hd hsel hs hc hn hQ r _ _ (inv.set hrd ho.1.1.1) ho.2 hr)
    by_cases hw : Region.wanted o (yielded ops a.tmps) = true
    · exact .inl ⟨hw, fun w' hM => by subst hM; rwa [if_pos hw] at hy⟩
    · exact .inr ⟨by simpa using hw, by rwa [if_neg hw] at hy⟩
/-- The tail: each alone is left to come. -/
def tailOk (md : Region.Mode) (ops : Array Oper) : List Nat → Array Bool → Bool
  | [], listed => (Region.ready md ops listed).isEmpty
  | i :: r, listed => (Region.ready md ops listed == [i]) && tailOk md ops r (listed.setIfInBounds i true)
def wpTl (n : Nat) (P : Program) (ops : Array Oper) (Q : Exit → Act → World → Prop) : List Nat → Act → World → Prop
  | [], a, w => Q .normal a w
  | i :: r, a, w => wpOpIn Fence.wide n P ops Q i (wpTl n P ops Q r) a w
theorem wpAnyIn_of_tl : ∀ (plan : List Nat) (listed : Array Bool) (a : Act) (w : World), tailOk md ops plan listed = true → wpTl n P ops Q plan a w → wpAnyIn Fence.wide n P md ops Q plan.length listed a w
  | [], listed, a, w, ho, h => ⟨by simpa [tailOk] using ho, h⟩
  | i :: r, listed, a, w, ho, h => by
    simp only [tailOk, Bool.and_eq_true, beq_iff_eq] at ho
    refine ⟨fun h0 => absurd (ho.1.symm.trans h0) (by simp), fun j hj => ?_⟩
    rw [ho.1, List.mem_singleton] at hj
    subst hj
    exact wpOpIn_mono (fun a' w' x => wpAnyIn_of_tl r _ a' w' ho.2 x) h
/-- THE BEGINNING. -/
theorem region_tailI {id : Nat} {a : Act} {w : World} (m : Nat) (plan plan2 : List Nat) (hm : P.follows .mixedOrders = true)
    (ho : (Region.noSelect ops && decide (m < ops.size) && Region.sinkB .any ops m && Region.chainB .any ops m && (plan.length + plan2.length == ops.size)
      && headOk .any ops m plan (Array.replicate ops.size false) && tailOk .any ops plan2 (headSet plan (Array.replicate ops.size false))) = true)
    (hQ : ∀ c a d v w, Q (.panic c) (Act.put a d v) w → Q (.panic c) a w)
    (h : wpHd P ops w.drew (fun a => wpTl n P ops Q plan2 a w.drew) plan a) : (Code.region id ops true).wpIn Fence.wide n P Q a w := by
  simp only [Bool.and_eq_true, beq_iff_eq, decide_eq_true_eq] at ho
  obtain ⟨⟨⟨⟨⟨⟨hsel, hn⟩, hs⟩, hc⟩, hl⟩, h1⟩, h2⟩ := ho
  have inv0 : HeadInv .any ops m (Array.replicate ops.size false) :=
    ⟨by simp, fun j oj _ hl => (by rw [getD_replicate_false] at hl; cases hl), fun t _ ht => getD_in (by simpa using ht) (getD_replicate_false _ _)⟩
  have key : ∀ (pl : List Nat) (a : Act), wpHd P ops w.drew (fun a => wpTl n P ops Q plan2 a w.drew) pl a → wpHd P ops w.drew (fun a => wpAnyIn Fence.wide n P .any ops Q plan2.length (headSet plan (Array.replicate ops.size false)) a w.drew) pl a := by
    intro pl
    induction pl with
    | nil => intro a x; exact wpAnyIn_of_tl _ _ _ _ h2 x
    | cons i r ih => intro a ⟨o, v, x1, x2, x3⟩; exact ⟨o, v, x1, x2, ih _ x3⟩
  have := wpAnyIn_of_head _ _ _ _ (wpHeadI_of_hd (md := .any) (n := n) (Q := Q) (g := plan2.length) hsel hs hc hn hQ plan _ a inv0 h1 (key plan a h))
  rw [hl] at this
  exact wpIn_region_any hm this
theorem hd_yes {w : World} {E : Act → Prop} {i : Nat} {r : List Nat} {a : Act} {o : Oper} {v : Value} (hi : ops.toList[i]? = some o)
    (hw : Region.wanted o (yielded ops a.tmps) = true) (hy : (execOp a.eval o).run P w = .ok (.value v) w) (h : wpHd P ops w E r (a.put o.dst v)) : wpHd P ops w E (i :: r) a := ⟨o, v, of_toList hi, by rw [if_pos hw]; exact hy, h⟩
theorem hd_no {w : World} {E : Act → Prop} {i : Nat} {r : List Nat} {a : Act} {o : Oper} (hi : ops.toList[i]? = some o)
    (hw : Region.wanted o (yielded ops a.tmps) = false) (h : wpHd P ops w E r (a.put o.dst undef)) : wpHd P ops w E (i :: r) a := ⟨o, undef, of_toList hi, by rw [hw]; rfl, h⟩
theorem hd_end {w : World} {E : Act → Prop} {a : Act} (h : E a) : wpHd P ops w E [] a := h
theorem tl_yes {i : Nat} {r : List Nat} {a : Act} {w : World} {o : Oper} (hi : ops.toList[i]? = some o) (hw : Region.wanted o (yielded ops a.tmps) = true)
    (h : ∀ K : Act → World → Prop, (∀ a' w', wpTl n P ops Q r a' w' → K a' w') → o.wpIn Fence.wide n P a w K Q) : wpTl n P ops Q (i :: r) a w := by
  have := h _ (fun _ _ h => h)
  show wpOpIn Fence.wide n P ops Q i _ a w
  unfold wpOpIn
  simp only [of_toList hi, hw, if_true]
  exact this
theorem tl_no {i : Nat} {r : List Nat} {a : Act} {w : World} {o : Oper} (hi : ops.toList[i]? = some o) (hw : Region.wanted o (yielded ops a.tmps) = false)
    (h : wpTl n P ops Q r (a.put o.dst undef) w) : wpTl n P ops Q (i :: r) a w := by
  show wpOpIn Fence.wide n P ops Q i _ a w
  unfold wpOpIn
  simp only [of_toList hi, hw, Bool.false_eq_true, if_false]
  exact ⟨fun _ _ => trivial, h⟩
theorem tl_end {a : Act} {w : World} (h : Q .normal a w) : wpTl n P ops Q [] a w := h
end
end Go.Proofs.Ythfgccibiajneaa
