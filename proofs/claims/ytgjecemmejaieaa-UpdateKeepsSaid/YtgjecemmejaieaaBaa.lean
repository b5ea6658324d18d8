/-
  Texts in one, each behind those that it needs: Reg, Heap, Agg, Heap2, More, AggB.
-/
import Derived.WalkKit
import Derived.OrdersHeld
import Derived.Below
import Derived.Deep.WholeRow
import Derived.ChangeKeysEq
import Derived.Laws.StructEq
import Derived.Maps.AppendAt
import Derived.Deep.AppendLies
import Derived.OwnWalk
import Derived.Laws.IdiomCopy
/-
  Plain machinery over any program: what a call may change ('Mod'); a region that leaves its order open, walked in ONE order: what only computes or reads is taken first, what makes or writes comes when it alone is left ('region_sq').
-/
namespace Go.Proofs.Ytgjecemmejaieaa
open Go.RowKit

/-- From w to w': blocks have come, and of the old ones only those of M may have turned. -/
structure Mod (M : Nat → Prop) (w w' : World) : Prop where
  os : w'.os = w.os
  tape : w'.tape = w.tape
  output : w'.output = w.output
  size : w.heap.size ≤ w'.heap.size
  block : ∀ b, b < w.heap.size → ¬ M b → w'.heap[b]? = w.heap[b]?
section
variable {M N : Nat → Prop} {a b c w w' : World}
theorem Mod.refl (M : Nat → Prop) (w : World) : Mod M w w := ⟨rfl, rfl, rfl, Nat.le_refl _, fun _ _ _ => rfl⟩
theorem Mod.trans (h : Mod M a b) (k : Mod M b c) : Mod M a c :=
  ⟨k.os.trans h.os, k.tape.trans h.tape, k.output.trans h.output, Nat.le_trans h.size k.size, fun i hi hm => (k.block i (Nat.lt_of_lt_of_le hi h.size) hm).trans (h.block i hi hm)⟩
/-- The second may also turn what is new to the first. -/
theorem Mod.step (h : Mod M a b) (k : Mod N b c) (hn : ∀ i, i < a.heap.size → N i → M i) : Mod M a c :=
  ⟨k.os.trans h.os, k.tape.trans h.tape, k.output.trans h.output, Nat.le_trans h.size k.size, fun i hi hm => (k.block i (Nat.lt_of_lt_of_le hi h.size) (fun x => hm (hn i hi x))).trans (h.block i hi hm)⟩
theorem Mod.mono (h : Mod N a b) (hn : ∀ i, i < a.heap.size → N i → M i) : Mod M a b := (Mod.refl M a).step h hn
theorem Mod.drew (h : Mod M a w) : Mod M a w.drew := ⟨h.os, h.tape, h.output, h.size, h.block⟩
theorem Mod.alloc (h : Mod M a w) (o : Obj) : Mod M a (w.alloc o) :=
  ⟨h.os, h.tape, h.output, Nat.le_trans h.size (by simp), fun i hi hm => (Below.heap_alloc w o i (Nat.lt_of_lt_of_le hi h.size)).trans (h.block i hi hm)⟩
theorem Mod.setCell (h : Mod M a w) (p : Addr) (v : Value) (hp : p.block < a.heap.size → M p.block) : Mod M a (w.setCell p v) :=
  ⟨h.os, h.tape, h.output, Nat.le_trans h.size (by simp [World.setCell]), fun i hi hm => (Below.heap_setCell w p v i (fun e => hm (e ▸ hp (e ▸ hi)))).trans (h.block i hi hm)⟩
theorem Mod.grown {row : Option Nat} (h : Mod M a w) (hg : w.grownBy w' row) (hp : ∀ k, row = some k → k < a.heap.size → M k) : Mod M a w' :=
  ⟨hg.os.trans h.os, hg.tape.trans h.tape, hg.output.trans h.output, Nat.le_trans h.size hg.size, fun i hi hm => (hg.block i (Nat.lt_of_lt_of_le hi h.size) (fun e => hm (hp i e.symm hi))).trans (h.block i hi hm)⟩
theorem Mod.of_below (h : Below a.heap.size a b) : Mod M a b := ⟨h.os, h.tape, h.output, h.size, fun i hi _ => h.block i hi⟩
theorem Mod.below (h : Mod M a b) (hm : ∀ i, i < a.heap.size → ¬ M i) : Below a.heap.size a b := ⟨h.os, h.tape, h.output, h.size, fun i hi => h.block i hi (hm i hi)⟩
theorem Mod.cell (h : Mod M a b) {p : Addr} (hp : p.block < a.heap.size) (hm : ¬ M p.block) : b.cell? p = a.cell? p := World.cell?_of_block (h.block p.block hp hm)
theorem Mod.frozen (h : Mod M a b) {p : Addr} (hp : p.block < a.heap.size) (hm : ¬ M p.block) : b.frozen? p = a.frozen? p := World.frozen?_of_block (h.block p.block hp hm)
end
/-- Nothing that was there has turned. -/
def No : Nat → Prop := fun _ => False

section
variable {P : Program} {ops : Array Oper} {Q : Exit → Act → World → Prop} {md : Region.Mode}
theorem wpAnyH_mono {S S' : World → Prop} (h : ∀ w, S w → S' w) : ∀ (fuel : Nat) (listed : Array Bool) (a : Act) (w : World), wpAnyH P md ops Q S fuel listed a w → wpAnyH P md ops Q S' fuel listed a w
  | 0, _, _, _, hh => hh
  | fuel + 1, _, _, _, hh => ⟨hh.1, fun i hi => wpOp_mono (fun a' w' x => ⟨h _ x.1, wpAnyH_mono h fuel _ a' w' x.2⟩) (hh.2 i hi)⟩
/-- A region in one order: 'true': taken first (it yields its value in whatever world may come); 'false': it alone is left to come. E: what is to be shown at the end. -/
def wpSq (P : Program) (ops : Array Oper) (Q : Exit → Act → World → Prop) (M : Nat → Prop) (E : Act → World → Prop) : List (Nat × Bool) → Act → World → Prop
  | [], a, w => E a w
  | (i, true) :: r, a, w => ∃ o v, ops[i]? = some o ∧ (∀ w', Mod M w w' → if Region.wanted o (yielded ops a.tmps) = true then (execOp a.eval o).run P w' = .ok (.value v) w' else v = undef) ∧ wpSq P ops Q M E r (a.put o.dst v) w
  | (i, false) :: r, a, w => wpOp P ops Q i (fun a' w' => Mod M w w' ∧ wpSq P ops Q M E r a' w') a w
def sqOk (md : Region.Mode) (ops : Array Oper) : List (Nat × Bool) → Array Bool → Bool
  | [], _ => true
  | (i, true) :: r, listed => Region.free md ops listed i && (Region.ready md ops listed).contains i && sqOk md ops r (listed.setIfInBounds i true)
  | (i, false) :: r, listed => (Region.ready md ops listed == [i]) && sqOk md ops r (listed.setIfInBounds i true)
/-- Which have come when the row is through. -/
def sqSet (plan : List (Nat × Bool)) (listed : Array Bool) : Array Bool := plan.foldl (fun l x => l.setIfInBounds x.1 true) listed
theorem wpAnyH_of_sq {M : Nat → Prop} (hs : Region.noSelect ops = true) (hQ : ∀ c a d v w, Q (.panic c) (Act.put a d v) w → Q (.panic c) a w) (n : Nat) :
    ∀ (plan : List (Nat × Bool)) (listed : Array Bool) (a : Act) (w : World), sqOk md ops plan listed = true →
      wpSq P ops Q M (fun a w => wpAnyH P md ops Q (Mod M w) n (sqSet plan listed) a w) plan a w → wpAnyH P md ops Q (Mod M w) (n + plan.length) listed a w
  | [], _, _, _, _, h => h
  | (i, true) :: r, listed, a, w, ho, h => by
    simp only [sqOk, Bool.and_eq_true] at ho
    obtain ⟨o, v, hi, hy, hr⟩ := h
    have ih := wpAnyH_of_sq hs hQ n r _ _ w ho.2 hr
    refine wpAnyH_take hi hs ho.1.1 ho.1.2 (fun c a w => hQ c a _ _ w) ?_ (Mod.refl M w) ih
    by_cases hw : Region.wanted o (yielded ops a.tmps) = true
    · exact .inl ⟨hw, fun w' hM => by have := hy w' hM; rwa [if_pos hw] at this⟩
    · exact .inr ⟨by simpa using hw, by have := hy w (Mod.refl M w); rwa [if_neg hw] at this⟩
  | (i, false) :: r, listed, a, w, ho, h => by
    simp only [sqOk, Bool.and_eq_true, beq_iff_eq] at ho
    refine wpAnyH_all ho.1 (by simp) (fun j hj => ?_)
    simp only [List.mem_singleton] at hj
    subst hj
    exact wpOp_mono (fun a' w' x => ⟨x.1, wpAnyH_mono (fun _ y => x.1.trans y) _ _ _ _ (wpAnyH_of_sq hs hQ n r _ a' w' ho.2 x.2)⟩) h
theorem wpSq_mono {M : Nat → Prop} {E E' : Act → World → Prop} (hE : ∀ a w, E a w → E' a w) : ∀ (plan : List (Nat × Bool)) (a : Act) (w : World), wpSq P ops Q M E plan a w → wpSq P ops Q M E' plan a w
  | [], a, w, h => hE a w h
  | (_, true) :: r, _, w, ⟨o, v, h1, h2, h3⟩ => ⟨o, v, h1, h2, wpSq_mono hE r _ w h3⟩
  | (_, false) :: r, _, _, h => wpOp_mono (fun a' w' x => ⟨x.1, wpSq_mono hE r a' w' x.2⟩) h
/-- THE BEGINNING. -/
theorem region_sq {id : Nat} {a : Act} {w : World} (M : Nat → Prop) (plan : List (Nat × Bool)) (hm : P.follows .mixedOrders = true)
    (ho : (Region.noSelect ops && (plan.length == ops.size) && sqOk .any ops plan (Array.replicate ops.size false) && (Region.ready .any ops (sqSet plan (Array.replicate ops.size false))).isEmpty) = true)
    (hQ : ∀ c a d v w, Q (.panic c) (Act.put a d v) w → Q (.panic c) a w)
    (h : wpSq P ops Q M (Q .normal) plan a w.drew) : (Code.region id ops true).wp P Q a w := by
  simp only [Bool.and_eq_true, beq_iff_eq, List.isEmpty_iff] at ho
  have := wpAnyH_of_sq (md := .any) ho.1.1.1 hQ 0 plan _ a w.drew ho.1.2 (wpSq_mono (fun a w hq => wpAnyH_done ho.2 hq 0) plan _ _ h)
  rw [Nat.zero_add, ho.1.1.2] at this
  exact wp_region_held hm this
/-- The beginning, where two are left to come at a place: the row till there ('n' are left). -/
theorem region_sq_till {id : Nat} {a : Act} {w : World} (M : Nat → Prop) (plan : List (Nat × Bool)) (n : Nat) (hm : P.follows .mixedOrders = true)
    (ho : (Region.noSelect ops && (n + plan.length == ops.size) && sqOk .any ops plan (Array.replicate ops.size false)) = true)
    (hQ : ∀ c a d v w, Q (.panic c) (Act.put a d v) w → Q (.panic c) a w)
    (h : wpSq P ops Q M (fun a w => wpAnyH P .any ops Q (Mod M w) n (sqSet plan (Array.replicate ops.size false)) a w) plan a w.drew) : (Code.region id ops true).wp P Q a w := by
  simp only [Bool.and_eq_true, beq_iff_eq] at ho
  have := wpAnyH_of_sq (md := .any) ho.1.1 hQ n plan _ a w.drew ho.2 h
  rw [ho.1.2] at this
  exact wp_region_held hm this
/-- A row on the way. -/
theorem any_sq {M : Nat → Prop} {n : Nat} {listed : Array Bool} {a : Act} {w : World} (plan : List (Nat × Bool)) (ho : (Region.noSelect ops && sqOk md ops plan listed) = true)
    (hQ : ∀ c a d v w, Q (.panic c) (Act.put a d v) w → Q (.panic c) a w)
    (h : wpSq P ops Q M (fun a w => wpAnyH P md ops Q (Mod M w) n (sqSet plan listed) a w) plan a w) : wpAnyH P md ops Q (Mod M w) (n + plan.length) listed a w := by
  simp only [Bool.and_eq_true] at ho
  exact wpAnyH_of_sq ho.1 hQ n plan listed a w ho.2 h
theorem any_end {M : Nat → Prop} {listed : Array Bool} {a : Act} {w : World} (ho : (Region.ready md ops listed).isEmpty = true) (h : Q .normal a w) : wpAnyH P md ops Q (Mod M w) 0 listed a w :=
  wpAnyH_done (by simpa using ho) h 0
/-- Two are left to come: either may be the first. -/
theorem any_two {M : Nat → Prop} {n : Nat} {listed : Array Bool} {a : Act} {w : World} (i j : Nat) (ho : (Region.ready md ops listed == [i, j]) = true)
    (h1 : wpSq P ops Q M (fun a w => wpAnyH P md ops Q (Mod M w) n (listed.setIfInBounds i true) a w) [(i, false)] a w)
    (h2 : wpSq P ops Q M (fun a w => wpAnyH P md ops Q (Mod M w) n (listed.setIfInBounds j true) a w) [(j, false)] a w) : wpAnyH P md ops Q (Mod M w) (n + 1) listed a w := by
  simp only [beq_iff_eq] at ho
  have key : ∀ (k : Nat), wpSq P ops Q M (fun a w => wpAnyH P md ops Q (Mod M w) n (listed.setIfInBounds k true) a w) [(k, false)] a w →
      wpOp P ops Q k (fun a' w' => Mod M w w' ∧ wpAnyH P md ops Q (Mod M w) n (listed.setIfInBounds k true) a' w') a w := fun k h =>
    wpOp_mono (fun a' w' x => ⟨x.1, wpAnyH_mono (fun _ y => x.1.trans y) _ _ _ _ x.2⟩) h
  refine wpAnyH_all ho (by simp) (fun k hk => ?_)
  simp only [List.mem_cons, List.not_mem_nil, or_false] at hk
  rcases hk with rfl | rfl
  · exact key _ h1
  · exact key _ h2
/-! A second phase: what comes last and waits for all that was taken (a store behind its loads) need not keep what was read. -/
/-- Whatever order is picked: behind each operation S holds, but for those of D. -/
def wpAnyR (P : Program) (md : Region.Mode) (ops : Array Oper) (Q : Exit → Act → World → Prop) (D : Nat → Bool) (S : World → Prop) : Nat → Array Bool → Act → World → Prop
  | 0, listed, a, w => Region.ready md ops listed = [] ∧ Q .normal a w
  | fuel + 1, listed, a, w => (Region.ready md ops listed = [] → Q .normal a w) ∧
    ∀ i ∈ Region.ready md ops listed, wpOp P ops Q i (fun a' w' => (D i = false → S w') ∧ wpAnyR P md ops Q D S fuel (listed.setIfInBounds i true) a' w') a w
theorem wpAny_of_R {D : Nat → Bool} {S : World → Prop} : ∀ (fuel : Nat) (listed : Array Bool) (a : Act) (w : World), wpAnyR P md ops Q D S fuel listed a w → wpAny P md ops Q fuel listed a w
  | 0, _, _, _, h => h
  | fuel + 1, _, _, _, h => ⟨h.1, fun i hi => wpOp_mono (fun a' w' x => wpAny_of_R fuel _ a' w' x.2) (h.2 i hi)⟩
theorem wpAnyR_of_any {D : Nat → Bool} {S : World → Prop} : ∀ (fuel : Nat) (listed : Array Bool) (a : Act) (w : World), (∀ i, i < ops.size → listed.getD i true = false → D i = true) →
    wpAny P md ops Q fuel listed a w → wpAnyR P md ops Q D S fuel listed a w
  | 0, _, _, _, _, h => h
  | fuel + 1, listed, _, _, hD, h => ⟨h.1, fun i hi => wpOp_mono (fun a' w' x => by
      obtain ⟨hun, oj, hoj, _⟩ := mem_ready.1 hi
      have hlt : i < ops.size := (Array.getElem?_eq_some_iff.1 hoj).1
      refine ⟨fun h0 => (by rw [hD i hlt hun] at h0; cases h0), wpAnyR_of_any fuel _ a' w' (fun k hk hku => hD k hk ?_) x⟩
      by_cases hik : i = k
      · subst hik; exact hun
      · rwa [getD_set_ne true hik] at hku) (h.2 i hi)⟩
theorem wpAnyR_mono {D : Nat → Bool} {S S' : World → Prop} (h : ∀ w, S w → S' w) : ∀ (fuel : Nat) (listed : Array Bool) (a : Act) (w : World), wpAnyR P md ops Q D S fuel listed a w → wpAnyR P md ops Q D S' fuel listed a w
  | 0, _, _, _, hh => hh
  | fuel + 1, _, _, _, hh => ⟨hh.1, fun i hi => wpOp_mono (fun a' w' x => ⟨fun hd => h _ (x.1 hd), wpAnyR_mono h fuel _ a' w' x.2⟩) (hh.2 i hi)⟩
theorem wpAnyR_take {D : Nat → Bool} {S : World → Prop} {i : Nat} {oi : Oper} {v : Value} (hi : ops[i]? = some oi) (hsel : Region.noSelect ops = true)
    (hD : ∀ j oj, ops[j]? = some oj → D j = true → ∃ e ∈ oj.after, Region.binds md e = true ∧ e.on = i)
    (hQ : ∀ c a w, Q (.panic c) (a.put oi.dst v) w → Q (.panic c) a w) :
    ∀ (fuel : Nat) (listed : Array Bool) (a : Act) (w : World),
      (∀ j oj, ops[j]? = some oj → j ≠ i → listed.getD j true = false → (∀ e ∈ oj.after, Region.binds md e = true → e.on ≠ i) → oi.apart ops oj = true) →
      i ∈ Region.ready md ops listed → YieldsIf P ops S oi v a → S w →
      wpAnyR P md ops Q D S fuel (listed.setIfInBounds i true) (a.put oi.dst v) w → wpAnyR P md ops Q D S (fuel + 1) listed a w := by
  intro fuel
  induction fuel with
  | zero =>
    intro listed a w _ hr hy hS H
    refine ⟨fun h => (by rw [h] at hr; cases hr), fun j hj => ?_⟩
    by_cases hji : j = i
    · subst hji; exact hy.wpOp hi hS ⟨fun _ => hS, H⟩
    · have := ready_mono hj hji
      rw [H.1] at this
      cases this
  | succ fuel ih =>
    intro listed a w hfree hr hy hS H
    refine ⟨fun h => (by rw [h] at hr; cases hr), fun j hj => ?_⟩
    by_cases hji : j = i
    · subst hji; exact hy.wpOp hi hS ⟨fun _ => hS, H⟩
    · have h1 := H.2 j (ready_mono hj hji)
      obtain ⟨hjun, oj, hoj, hall⟩ := mem_ready.1 hj
      have hnot : ∀ e ∈ oj.after, Region.binds md e = true → e.on ≠ i := fun e he hb heq => by
        have h1 := hall e he hb
        have h0 := (mem_ready.1 hr).1
        rw [heq] at h1
        rcases Nat.lt_or_ge i listed.size with h' | h'
        · simp [h'] at h0 h1; rw [h0] at h1; cases h1
        · simp [Array.getElem?_eq_none h'] at h1
      have hDj : D j = false := by
        cases hd : D j with
        | false => rfl
        | true => obtain ⟨e, he, hb, hon⟩ := hD j oj hoj hd; exact absurd hon (hnot e he hb)
      have h2 := wpOp_putIf hoj (hfree j oj hoj hji hjun hnot) (fun cs b => Region.noSelect_spec hsel i oi cs b hi) (fun cs b => Region.noSelect_spec hsel j oj cs b hoj) hQ hy h1
      have hfree' : ∀ k ok, ops[k]? = some ok → k ≠ i → (listed.setIfInBounds j true).getD k true = false →
          (∀ e ∈ ok.after, Region.binds md e = true → e.on ≠ i) → oi.apart ops ok = true := fun k ok hk hki hun hno => by
        refine hfree k ok hk hki ?_ hno
        by_cases hjk : j = k
        · subst hjk; exact hjun
        · rw [getD_set_ne true hjk] at hun; exact hun
      refine wpOp_mono (fun a' w' h3 => ⟨fun _ => h3.2.1 hDj, ih (listed.setIfInBounds j true) a' w' hfree' (ready_mono hr (Ne.symm hji)) h3.1 (h3.2.1 hDj) ?_⟩) h2
      rw [Array.setIfInBounds_comm _ _ hji]
      exact h3.2.2
theorem wpAnyR_of_sq {M : Nat → Prop} (D : Nat → Bool) (hs : Region.noSelect ops = true) (hQ : ∀ c a d v w, Q (.panic c) (Act.put a d v) w → Q (.panic c) a w) (n : Nat) :
    ∀ (plan : List (Nat × Bool)) (listed : Array Bool) (a : Act) (w : World), sqOk md ops plan listed = true →
      (∀ i, (i, true) ∈ plan → ∀ j oj, ops[j]? = some oj → D j = true → ∃ e ∈ oj.after, Region.binds md e = true ∧ e.on = i) →
      wpSq P ops Q M (fun a w => wpAnyR P md ops Q D (Mod M w) n (sqSet plan listed) a w) plan a w → wpAnyR P md ops Q D (Mod M w) (n + plan.length) listed a w
  | [], _, _, _, _, _, h => h
  | (i, true) :: r, listed, a, w, ho, hD, h => by
    simp only [sqOk, Bool.and_eq_true] at ho
    obtain ⟨o, v, hi, hy, hr⟩ := h
    have ih := wpAnyR_of_sq D hs hQ n r _ _ w ho.2 (fun k hk => hD k (List.mem_cons_of_mem _ hk)) hr
    refine wpAnyR_take hi hs (hD i List.mem_cons_self) (fun c a w => hQ c a _ _ w) _ listed a w (Region.free_spec hi ho.1.1) (by simpa using ho.1.2) ?_ (Mod.refl M w) ih
    by_cases hw : Region.wanted o (yielded ops a.tmps) = true
    · exact .inl ⟨hw, fun w' hM => by have := hy w' hM; rwa [if_pos hw] at this⟩
    · exact .inr ⟨by simpa using hw, by have := hy w (Mod.refl M w); rwa [if_neg hw] at this⟩
  | (i, false) :: r, listed, a, w, ho, hD, h => by
    simp only [sqOk, Bool.and_eq_true, beq_iff_eq] at ho
    refine ⟨fun h0 => absurd (ho.1.symm.trans h0) (by simp), fun j hj => ?_⟩
    rw [ho.1, List.mem_singleton] at hj
    subst hj
    exact wpOp_mono (fun a' w' x => ⟨fun _ => x.1, wpAnyR_mono (fun _ y => x.1.trans y) _ _ _ _ (wpAnyR_of_sq D hs hQ n r _ a' w' ho.2 (fun k hk => hD k (List.mem_cons_of_mem _ hk)) x.2)⟩) h
/-- Does operation j wait for each that was taken? -/
def waitsAll (md : Region.Mode) (ops : Array Oper) (plan : List (Nat × Bool)) (j : Nat) : Bool :=
  match ops[j]? with
  | some o => plan.all fun x => !x.2 || o.after.any fun e => Region.binds md e && e.on == x.1
  | none => true
theorem waitsAll_spec {plan : List (Nat × Bool)} {j i : Nat} {o : Oper} (hj : ops[j]? = some o) (h : waitsAll md ops plan j = true) (hi : (i, true) ∈ plan) : ∃ e ∈ o.after, Region.binds md e = true ∧ e.on = i := by
  simp only [waitsAll, hj, List.all_eq_true] at h
  have h1 := h _ hi
  simp only [Bool.not_true, Bool.false_or] at h1
  obtain ⟨e, he, hb⟩ := Array.any_eq_true'.1 h1
  simp only [Bool.and_eq_true, beq_iff_eq] at hb
  exact ⟨e, he, hb.1, hb.2⟩
/-- THE BEGINNING, in two phases: the second's operations wait for all that the first takes: they may change what it read. -/
theorem region_sq2 {id : Nat} {a : Act} {w : World} (M N : Nat → Prop) (plan plan2 : List (Nat × Bool)) (hm : P.follows .mixedOrders = true)
    (ho : (Region.noSelect ops && (plan2.length + plan.length == ops.size) && sqOk .any ops plan (Array.replicate ops.size false) && sqOk .any ops plan2 (sqSet plan (Array.replicate ops.size false))
      && (Region.ready .any ops (sqSet plan2 (sqSet plan (Array.replicate ops.size false)))).isEmpty
      && (List.range ops.size).all fun i => (sqSet plan (Array.replicate ops.size false)).getD i true || waitsAll .any ops plan i) = true)
    (hQ : ∀ c a d v w, Q (.panic c) (Act.put a d v) w → Q (.panic c) a w)
    (h : wpSq P ops Q M (fun a w => wpSq P ops Q N (Q .normal) plan2 a w) plan a w.drew) : (Code.region id ops true).wp P Q a w := by
  simp only [Bool.and_eq_true, beq_iff_eq, List.isEmpty_iff, List.all_eq_true, List.mem_range, Bool.or_eq_true] at ho
  obtain ⟨⟨⟨⟨⟨hs, hl⟩, h1⟩, h2⟩, he⟩, hd⟩ := ho
  have key : ∀ a w, wpSq P ops Q N (Q .normal) plan2 a w → wpAnyR P .any ops Q (waitsAll .any ops plan) (Mod M w) plan2.length (sqSet plan (Array.replicate ops.size false)) a w := fun a w x => by
    refine wpAnyR_of_any _ _ a w (fun i hi hu => by rcases hd i hi with h | h <;> simp_all) ?_
    have := wpAnyH_of_sq (md := .any) hs hQ 0 plan2 _ a w h2 (wpSq_mono (fun a w hq => wpAnyH_done he hq 0) plan2 _ _ x)
    rw [Nat.zero_add] at this
    exact wpAny_of_held _ _ _ _ this
  have := wpAnyR_of_sq (md := .any) (waitsAll .any ops plan) hs hQ plan2.length plan _ a w.drew h1 (fun i hi j oj hj hw => waitsAll_spec hj hw hi) (wpSq_mono key plan _ _ h)
  rw [hl] at this
  exact wp_region_any hm (wpAny_of_R _ _ _ _ this)
theorem of_toList {i : Nat} {o : Oper} (h : ops.toList[i]? = some o) : ops[i]? = some o := by rwa [Array.getElem?_toList] at h
/-- One that only computes or reads. -/
theorem sq_take {M : Nat → Prop} {E : Act → World → Prop} {i : Nat} {r : List (Nat × Bool)} {a : Act} {w : World} {o : Oper} {v : Value} (hi : ops.toList[i]? = some o)
    (hy : ∀ w', Mod M w w' → if Region.wanted o (yielded ops a.tmps) = true then (execOp a.eval o).run P w' = .ok (.value v) w' else v = undef)
    (h : wpSq P ops Q M E r (a.put o.dst v) w) : wpSq P ops Q M E ((i, true) :: r) a w := ⟨o, v, of_toList hi, hy, h⟩
theorem sq_yes {M : Nat → Prop} {E : Act → World → Prop} {i : Nat} {r : List (Nat × Bool)} {a : Act} {w : World} {o : Oper} {v : Value} (hi : ops.toList[i]? = some o)
    (hw : Region.wanted o (yielded ops a.tmps) = true) (hy : ∀ w', Mod M w w' → (execOp a.eval o).run P w' = .ok (.value v) w')
    (h : wpSq P ops Q M E r (a.put o.dst v) w) : wpSq P ops Q M E ((i, true) :: r) a w   := ⟨o, v, of_toList hi, fun w' hM => by rw [if_pos hw]; exact hy w' hM, h⟩
theorem sq_no {M : Nat → Prop} {E : Act → World → Prop} {i : Nat} {r : List (Nat × Bool)} {a : Act} {w : World} {o : Oper} (hi : ops.toList[i]? = some o)
    (hw : Region.wanted o (yielded ops a.tmps) = false) (h : wpSq P ops Q M E r (a.put o.dst undef) w) : wpSq P ops Q M E ((i, true) :: r) a w   := ⟨o, undef, of_toList hi, fun w' hM => by rw [hw]; rfl, h⟩
/-- One that makes or writes. -/
theorem sq_do {M : Nat → Prop} {E : Act → World → Prop} {i : Nat} {r : List (Nat × Bool)} {a : Act} {w : World} {o : Oper} (hi : ops.toList[i]? = some o)
    (h : ∀ K : Act → World → Prop, (∀ a' w', (Mod M w w' ∧ wpSq P ops Q M E r a' w') → K a' w') → if Region.wanted o (yielded ops a.tmps) = true then o.wp P a w K Q else K (a.put o.dst undef) w) : wpSq P ops Q M E ((i, false) :: r) a w := by
  have := h _ (fun _ _ h => h)
  show wpOp P ops Q i _ a w
  unfold wpOp
  simp only [of_toList hi]
  split
  · rename_i hw; rw [if_pos hw] at this; exact .inl this
  · rename_i hw; rw [if_neg hw] at this; exact this
theorem sq_do_yes {M : Nat → Prop} {E : Act → World → Prop} {i : Nat} {r : List (Nat × Bool)} {a : Act} {w : World} {o : Oper} (hi : ops.toList[i]? = some o)
    (hw : Region.wanted o (yielded ops a.tmps) = true)
    (h : ∀ K : Act → World → Prop, (∀ a' w', (Mod M w w' ∧ wpSq P ops Q M E r a' w') → K a' w') → o.wp P a w K Q) : wpSq P ops Q M E ((i, false) :: r) a w :=
  sq_do hi fun K hK => by rw [if_pos hw]; exact h K hK
theorem sq_do_no {M : Nat → Prop} {E : Act → World → Prop} {i : Nat} {r : List (Nat × Bool)} {a : Act} {w : World} {o : Oper} (hi : ops.toList[i]? = some o)
    (hw : Region.wanted o (yielded ops a.tmps) = false) (h : wpSq P ops Q M E r (a.put o.dst undef) w) : wpSq P ops Q M E ((i, false) :: r) a w :=
  sq_do hi fun K hK => by rw [hw]; exact hK _ _ ⟨Mod.refl M w, h⟩
theorem sq_end {M : Nat → Prop} {E : Act → World → Prop} {a : Act} {w : World} (h : E a w) : wpSq P ops Q M E [] a w := h
end
end Go.Proofs.Ytgjecemmejaieaa

/-
  Blocks as wholes, over any program: 'row' (a block's cells), a load of a whole array or struct as one step, what stays behind 'Mod'.
-/
namespace Go.Proofs.Ytgjecemmejaieaa
open Go.RowKit
/-- The cells of a block, whole. -/
def row (w : World) (n : Nat) : Array Value := match w.heap[n]? with | some (.cells c _ _) => c | _ => #[]
/-- Is a block one of cells, none of them shut? -/
def open_ (w : World) (n : Nat) : Bool := match w.heap[n]? with | some (.cells _ _ (0, 0)) => true | _ => false
theorem row_of {w : World} {n : Nat} {c : Array Value} {t : TypeId} {f : Nat × Nat} (h : w.heap[n]? = some (.cells c t f)) : row w n = c := by unfold row; rw [h]
theorem open_of {w : World} {n : Nat} {c : Array Value} {t : TypeId} (h : w.heap[n]? = some (.cells c t (0, 0))) : open_ w n = true := by unfold open_; rw [h]; rfl
@[go_sem] theorem row_alloc_at (w : World) (c : Array Value) (t : TypeId) (f : Nat × Nat) (n : Nat) (hn : n = w.heap.size) : row (w.alloc (.cells c t f)) n = c := by
  subst hn; exact row_of (heap_alloc_new w _)
@[go_sem] theorem row_alloc_past (w : World) (o : Obj) (n : Nat) (hn : n < w.heap.size) : row (w.alloc o) n = row w n := by
  unfold row; rw [Below.heap_alloc w o n hn]
@[go_sem] theorem row_drew (w : World) (n : Nat) : row w.drew n = row w n := rfl
@[go_sem] theorem open_alloc_at (w : World) (c : Array Value) (t : TypeId) (n : Nat) (hn : n = w.heap.size) : open_ (w.alloc (.cells c t (0, 0))) n = true := by
  subst hn; exact open_of (heap_alloc_new w _)
@[go_sem] theorem open_alloc_past (w : World) (o : Obj) (n : Nat) (hn : n < w.heap.size) : open_ (w.alloc o) n = open_ w n := by
  unfold open_; rw [Below.heap_alloc w o n hn]
@[go_sem] theorem open_drew (w : World) (n : Nat) : open_ w.drew n = open_ w n := rfl
theorem heap_of_open {w : World} {n : Nat} (h : open_ w n = true) : ∃ t, w.heap[n]? = some (.cells (row w n) t (0, 0)) := by
  unfold open_ at h
  split at h
  · rename_i c t he; exact ⟨t, by rw [row_of he]; exact he⟩
  · cases h
theorem lt_of_open {w : World} {n : Nat} (h : open_ w n = true) : n < w.heap.size := by
  obtain ⟨t, h⟩ := heap_of_open h
  rcases Nat.lt_or_ge n w.heap.size with h1 | h1
  · exact h1
  · rw [Array.getElem?_eq_none h1] at h; cases h
/-- A whole array or struct out of a variable of its own. -/
theorem loadAt_row {P : Program} (ty : TypeId) (d : TypeDesc) (size : Nat) (hu : P.underlying ty = some d) (hd : (match d with | .struct _ | .array _ _ => true | _ => false) = true)
    (hi : (P.info? ty).map (·.size) = some size) (w : World) (n : Nat) (ho : open_ w n = true) (hs : (row w n).size = size) :
    (Instr.loadAt ty (.pointer (some ⟨n, 0, none⟩))).run P w = .ok (.agg (row w n)) w := by
  obtain ⟨t, h⟩ := heap_of_open ho
  simp only [Instr.loadAt, Instr.sureAddr, Sem.run_bind, Sem.run_pure, Result.andThen_ok]
  exact run_loadVar_row w n t ty (row w n) (0, 0) d h hu hd (by rw [hs]; exact hi)
/-- The block that a pointer leads to, to its first cell. -/
def blk : Value → Nat
  | .pointer (some a) => a.block
  | _ => 0
def head : Value → Bool
  | .pointer (some ⟨_, 0, none⟩) => true
  | _ => false
@[go_sem] theorem blk_mk (b o : Nat) (s : Option Nat) : blk (.pointer (some ⟨b, o, s⟩)) = b := rfl
@[go_sem] theorem head_mk (b : Nat) : head (.pointer (some ⟨b, 0, none⟩)) = true := rfl
theorem of_head {v : Value} (h : head v = true) : v = .pointer (some ⟨blk v, 0, none⟩) := by
  unfold head at h
  split at h
  · rfl
  · cases h
/-- A load of a whole array or struct: one step. -/
theorem exec_load_row {P : Program} (ty : TypeId) (d : TypeDesc) (size : Nat) (hu : P.underlying ty = some d) (hd : (match d with | .struct _ | .array _ _ => true | _ => false) = true)
    (hi : (P.info? ty).map (·.size) = some size) (x : Operand) (dst : Option Tmp) (t : TypeId) (pos : String) (after : Array Edge) (g : Option (Nat × Bool)) (f : Operand → Value) (w : World)
    (hx : head (f x) = true) (ho : open_ w (blk (f x)) = true) (hs : (row w (blk (f x))).size = size) :
    (execOp f ⟨dst, .load ty x, t, pos, after, g⟩).run P w = .ok (.value (.agg (row w (blk (f x))))) w := by
  have e := of_head hx
  have h := loadAt_row (P := P) ty d size hu hd hi w _ ho hs
  rw [← e] at h
  unfold execOp
  simp only [Sem.run_bind, h, Result.andThen_ok, Sem.run_pure]
theorem Mod.of_drew {M : Nat → Prop} {a b : World} (h : Mod M a.drew b) : Mod M a b := ⟨h.os, h.tape, h.output, h.size, h.block⟩
/-- What stays, as rules of the walk. -/
theorem Mod.rules {M : Nat → Prop} {a b : World} (h : Mod M a b) :
    (∀ k o, k < a.heap.size → ¬ M k → b.cell? ⟨k, o, none⟩ = a.cell? ⟨k, o, none⟩) ∧ (∀ k, k < a.heap.size → ¬ M k → row b k = row a k) ∧ (∀ k, k < a.heap.size → ¬ M k → open_ b k = open_ a k) :=
  ⟨fun k o h1 h2 => h.cell (p := ⟨k, o, none⟩) h1 h2, fun k h1 h2 => by unfold row; rw [h.block k h1 h2], fun k h1 h2 => by unfold open_; rw [h.block k h1 h2]⟩
/-- Block g is of cells, cs, none of them shut. -/
def At (w : World) (g : Nat) (t : TypeId) (cs : Array Value) : Prop := w.heap[g]? = some (.cells cs t (0, 0))
section
variable {w w' : World} {g : Nat} {t : TypeId} {cs : Array Value}
theorem At.lt (h : At w g t cs) : g < w.heap.size := by
  unfold At at h
  rcases Nat.lt_or_ge g w.heap.size with h1 | h1
  · exact h1
  · rw [Array.getElem?_eq_none h1] at h; cases h
theorem At.cell (h : At w g t cs) (i : Nat) : w.cell? ⟨g, i, none⟩ = cs[i]? := cell_of_row w g i cs t (0, 0) h
theorem At.frozen (h : At w g t cs) (i : Nat) : w.frozen? ⟨g, i, none⟩ = false := frozen_of_row w g i cs t h
theorem At.row (h : At w g t cs) : row w g = cs := row_of h
theorem At.open (h : At w g t cs) : open_ w g = true := open_of h
theorem At.new (w : World) (t : TypeId) (cs : Array Value) : At (w.alloc (.cells cs t)) w.heap.size t cs := heap_alloc_new w _
theorem At.drew (h : At w g t cs) : At w.drew g t cs := h
theorem At.alloc (h : At w g t cs) (o : Obj) : At (w.alloc o) g t cs := (Below.heap_alloc w o g h.lt).trans h
theorem At.set (h : At w g t cs) (i : Nat) (u : Value) : At (w.setCell ⟨g, i, none⟩ u) g t (cs.setIfInBounds i u) := heap_setCell_same w g i cs t u h
theorem At.far (h : At w g t cs) {p : Addr} (hp : g ≠ p.block) (u : Value) : At (w.setCell p u) g t cs := (Below.heap_setCell w p u g hp).trans h
theorem At.mod {M : Nat → Prop} (h : At w g t cs) (hm : Mod M w w') (hg : ¬ M g) : At w' g t cs := (hm.block g h.lt hg).trans h
theorem At.below {B : Nat} (h : At w g t cs) (hb : Below B w w') (hg : g < B) : At w' g t cs := (hb.block g hg).trans h
end
end Go.Proofs.Ytgjecemmejaieaa

/-
  A load of a whole array or struct out of the midst of a block: one step; two arrays of bytes held against each other.
-/
namespace Go.Proofs.Ytgjecemmejaieaa
open Go.RowKit
section
variable {P : Program}
/-- The place in its block that a pointer leads to. -/
def offOf : Value → Nat
  | .pointer (some a) => a.off
  | _ => 0
def plainPtr : Value → Bool
  | .pointer (some ⟨_, _, none⟩) => true
  | _ => false
@[go_sem] theorem offOf_mk (b o : Nat) (s : Option Nat) : offOf (.pointer (some ⟨b, o, s⟩)) = o := rfl
@[go_sem] theorem plainPtr_mk (b o : Nat) : plainPtr (.pointer (some ⟨b, o, none⟩)) = true := rfl
theorem of_plainPtr {v : Value} (h : plainPtr v = true) : v = .pointer (some ⟨blk v, offOf v, none⟩) := by
  unfold plainPtr at h
  split at h
  · rfl
  · cases h
theorem loadAt_part (ty : TypeId) (d : TypeDesc) (n : Nat) (hu : P.underlying ty = some d) (hd : (match d with | .struct _ | .array _ _ => true | _ => false) = true)
    (hi : (P.info? ty).map (·.size) = some n) (w : World) (b o : Nat) (ho : open_ w b = true) (hs : o + n ≤ (row w b).size) :
    (Instr.loadAt ty (.pointer (some ⟨b, o, none⟩))).run P w = .ok (.agg ((row w b).extract o (o + n))) w := by
  obtain ⟨t, h⟩ := heap_of_open ho
  have hagg : (isAgg ty).run P w = .ok true w := by
    unfold isAgg
    rw [Sem.run_bind, run_underlying hu]
    simp only [Result.andThen_ok]
    cases d <;> simp_all
  have hsz : (sizeOf ty).run P w = .ok n w := by
    cases hq : P.info? ty with
    | none => simp [hq] at hi
    | some i => simp [hq] at hi; simp [sizeOf, typeInfo, hq, hi]
  have hl : ((row w b).extract o (o + n)).toList.length = n := by simp; omega
  have hc := run_loadCells_list (P := P) w ⟨b, o, none⟩ ((row w b).extract o (o + n)).toList (fun j v hv => by
    have hadd : (⟨b, o, none⟩ : Addr).add j = ⟨b, o + j, none⟩ := by unfold Addr.add; split <;> simp_all
    rw [hadd, cell_of_row w b (o + j) (row w b) t (0, 0) h]
    have hj : j < n := by have := (List.getElem?_eq_some_iff.1 hv).1; omega
    rw [Array.getElem?_toList, Array.getElem?_extract, if_pos (by omega)] at hv
    exact hv)
  rw [hl] at hc
  simp only [Instr.loadAt, Instr.sureAddr, Sem.run_bind, Sem.run_pure, Result.andThen_ok, loadVar, hagg, hsz, hc, if_true]
/-- A load of a whole array or struct, wherever it lies: one step. -/
theorem exec_load_part (ty : TypeId) (d : TypeDesc) (n : Nat) (hu : P.underlying ty = some d) (hd : (match d with | .struct _ | .array _ _ => true | _ => false) = true)
    (hi : (P.info? ty).map (·.size) = some n) (x : Operand) (dst : Option Tmp) (t : TypeId) (pos : String) (after : Array Edge) (g : Option (Nat × Bool)) (f : Operand → Value) (w : World)
    (hx : plainPtr (f x) = true) (ho : open_ w (blk (f x)) = true) (hs : offOf (f x) + n ≤ (row w (blk (f x))).size) :
    (execOp f ⟨dst, .load ty x, t, pos, after, g⟩).run P w = .ok (.value (.agg ((row w (blk (f x))).extract (offOf (f x)) (offOf (f x) + n)))) w := by
  have e := of_plainPtr hx
  have h := loadAt_part (P := P) ty d n hu hd hi w _ _ ho hs
  rw [← e] at h
  unfold execOp
  simp only [Sem.run_bind, h, Result.andThen_ok, Sem.run_pure]
end
end Go.Proofs.Ytgjecemmejaieaa

namespace Go.Proofs.Ytgjecemmejaieaa
open Go.RowKit
/-- A slice value that reads as these cells; nothing is asked of an empty one. -/
def Rds (w : World) (size : Nat) (a : Option Addr) (m : Nat) (news : List Value) : Prop :=
  news.length = m * size ∧ (0 < m → ∃ ad, a = some ad ∧ ad.block < w.heap.size ∧ ∀ j u, news[j]? = some u → w.cell? (ad.add j) = some u)
section
variable {P : Program} (w : World)
/-- 'append' of whatever slice onto one of the call's own. -/
theorem run_app (base : Nat) (t ty e : TypeId) (i : TypeInfo) (z : Value) (size bytes : Nat) (ht : P.underlying t = some (.slice e)) (hi : P.info? e = some i) (hz : i.zero = some z)
    (hsize : i.size = size) (hby : i.bytes = bytes) (hzs : z.cells.size = size) (hsz : 0 < size)
    (v : Value) (n : Nat) (xs : List Value) (hown : w.ownsRow base e size v n xs)
    (a : Option Addr) (m c : Nat) (news : List Value) (hr : Rds w size a m news) (h1 : ∀ u ∈ news, u.oneCell' = true)
    (h63 : n + m ≤ maxLen) (hbytes : (n + m) * bytes ≤ 140737488355328) (hbase : base ≤ w.heap.size) :
    ∃ v' w', (Builtin.append_ #[t, t] ty #[v, .slice a m c]).run P w = .ok v' w' ∧ w'.ownsRow base e size v' (n + m) (xs ++ news) ∧ w.grownBy w' v.ownBlock ∧
      (v'.ownBlock = v.ownBlock ∨ v'.ownBlock = some w.heap.size) := by
  obtain ⟨hl, hc⟩ := hr
  rcases a with _ | ad
  · rcases Nat.eq_zero_or_pos m with rfl | hm
    · have hn : news = [] := List.eq_nil_of_length_eq_zero (by simpa using hl)
      subst hn
      refine ⟨v, w, ?_, by simpa using hown, World.grownBy.refl w _, .inl rfl⟩
      rcases hown.2 with ⟨rfl, rfl⟩ | ⟨g, cap, cur, rfl, _, _, hnc, _⟩
      · simp [Builtin.append_, run_underlying ht, sizeOf, typeInfo, hi, Builtin.lenOf, Builtin.firstCells]
      · simp [Builtin.append_, run_underlying ht, sizeOf, typeInfo, hi, Builtin.lenOf, Builtin.firstCells, hnc, storeCells]
    · obtain ⟨_, h, _⟩ := hc hm
      cases h
  · have hcells : ∀ j u, news[j]? = some u → w.cell? (ad.add j) = some u := by
      rcases Nat.eq_zero_or_pos m with rfl | hm
      · have hn : news = [] := List.eq_nil_of_length_eq_zero (by simpa using hl)
        subst hn
        intro j u hu
        simp at hu
      · obtain ⟨ad', h, _, hc'⟩ := hc hm
        cases h
        exact hc'
    obtain ⟨v', w', hr', h2, h3, _, h5⟩ := run_append_own_at (P := P) w base t ty e i z size bytes ht hi hz hsize hby hzs hsz v n xs hown ad m c news hl hcells h1 h63 hbytes hbase
    exact ⟨v', w', hr', h2, h3, h5⟩
theorem wpList_app {ops : Array Oper} {rest : List Oper} {o : Oper} {a : Act} {Q : Exit → Act → World → Prop} (hgd : o.guard = none) (s x : Operand) (t : TypeId)
    (ho : o.op = .call { callee := .builtin .append, args := #[s, x], argTypes := #[t, t] })
    (base : Nat) (e : TypeId) (i : TypeInfo) (z : Value) (size bytes : Nat) (ht : P.underlying t = some (.slice e)) (hi : P.info? e = some i) (hz : i.zero = some z)
    (hsize : i.size = size) (hby : i.bytes = bytes) (hzs : z.cells.size = size) (hsz : 0 < size)
    (v : Value) (n : Nat) (xs : List Value) (hs : a.eval s = v) (hown : w.ownsRow base e size v n xs)
    (ad : Option Addr) (m c : Nat) (news : List Value) (hx : a.eval x = .slice ad m c) (hr : Rds w size ad m news) (h1 : ∀ u ∈ news, u.oneCell' = true)
    (h63 : n + m ≤ maxLen) (hbytes : (n + m) * bytes ≤ 140737488355328) (hbase : base ≤ w.heap.size)
    (h : ∀ v' w', w'.ownsRow base e size v' (n + m) (xs ++ news) → w.grownBy w' v.ownBlock → (v'.ownBlock = v.ownBlock ∨ v'.ownBlock = some w.heap.size) → wpList P ops Q rest (a.put o.dst v') w') : wpList P ops Q (o :: rest) a w := by
  obtain ⟨v', w', hr', h2, h3, h4⟩ := run_app (P := P) w base t o.type e i z size bytes ht hi hz hsize hby hzs hsz v n xs hown ad m c news hr h1 h63 hbytes hbase
  refine wpList_plain hgd fun K hK => ?_
  unfold Oper.wp execOp
  simp only [ho, resolve, invoke, builtin, Sem.run_bind, Sem.run_pure, Result.andThen_ok, List.map_toArray, List.map_cons, List.map_nil, hs, hx, hr']
  exact hK _ _ (h v' w' h2 h3 h4)
end
/-- A row of the call's own, grown from a base: what is below the base is as it was. -/
theorem below_grown {B : Nat} {a w w' : World} {row : Option Nat} (h : Below B a w) (hg : w.grownBy w' row) (hB : B ≤ w.heap.size) (hr : ∀ k, row = some k → B ≤ k) : Below B a w' := h.grown hg hB hr
end Go.Proofs.Ytgjecemmejaieaa

/-
  Small laws besides: worlds behind one another, blocks made anew.
-/
namespace Go.Proofs.Ytgjecemmejaieaa
open Go.RowKit
theorem step_below {a b c : World} (h : Below a.heap.size a b) (k : Below b.heap.size b c) : Below a.heap.size a c := h.trans (k.mono h.size)
theorem lt_of_heap {w : World} {g : Nat} {o : Obj} (h : w.heap[g]? = some o) : g < w.heap.size := by
  rcases Nat.lt_or_ge g w.heap.size with h1 | h1
  · exact h1
  · rw [Array.getElem?_eq_none h1] at h; cases h
theorem at_new (w : World) (t : TypeId) (cs : Array Value) (n : Nat) (hn : n = w.heap.size) : At (w.alloc (.cells cs t)) n t cs := by subst hn; exact At.new w t cs
theorem Mod.alloc_drew {M : Nat → Prop} (w : World) (o : Obj) : Mod M w.drew (w.alloc o).drew := ⟨rfl, rfl, rfl, by show w.heap.size ≤ (w.alloc o).heap.size; simp, fun i hi _ => Below.heap_alloc w o i hi⟩
theorem Mod.realloc (w : World) (o o' : Obj) : Mod (fun i => i = w.heap.size) (w.alloc o).drew (w.alloc o').drew := ⟨rfl, rfl, rfl, by show (w.alloc o).heap.size ≤ (w.alloc o').heap.size; simp, fun i hi hm => by
  have h1 : i < (w.alloc o).heap.size := hi
  rw [World.size_alloc] at h1
  exact (Below.heap_alloc w o' i (by omega)).trans (Below.heap_alloc w o i (by omega)).symm⟩
/-- A piece that may not panic. -/
def noPanic (Q : Exit → Go.Act → World → Prop) : Exit → Go.Act → World → Prop
  | .panic _, _, _ => False
  | e, a, w => Q e a w
theorem wp_noPanic {P : Program} {c : Code} {Q : Exit → Go.Act → World → Prop} {a : Go.Act} {w : World} (h : c.wp P (noPanic Q) a w) : c.wp P Q a w :=
  wp_mono h (fun e a w hq => by cases e <;> first | exact hq | exact hq.elim)
theorem noPanic_normal {Q : Exit → Go.Act → World → Prop} {a : Go.Act} {w : World} (h : Q .normal a w) : noPanic Q .normal a w := h
end Go.Proofs.Ytgjecemmejaieaa

/-
  A store of a whole array or struct into the midst of a block; cells written over cells.
-/
namespace Go.Proofs.Ytgjecemmejaieaa
open Go.RowKit
/-- Cells, written over from a place on. -/
def splice (cs : Array Value) : Nat → List Value → Array Value
  | _, [] => cs
  | o, v :: r => splice (cs.setIfInBounds o v) (o + 1) r
theorem splice_size : ∀ (vs : List Value) (cs : Array Value) (o : Nat), (splice cs o vs).size = cs.size
  | [], _, _ => rfl
  | v :: r, cs, o => by rw [splice, splice_size r, Array.size_setIfInBounds]
theorem splice_get : ∀ (vs : List Value) (cs : Array Value) (o j : Nat), o + vs.length ≤ cs.size → (splice cs o vs)[j]? = if o ≤ j ∧ j < o + vs.length then vs[j - o]? else cs[j]?
  | [], cs, o, j, _ => by rw [if_neg (fun h => by have := h.2; simp only [List.length_nil] at this; omega)]; rfl
  | v :: r, cs, o, j, h => by
    simp only [List.length_cons] at h
    rw [splice, splice_get r _ _ _ (by rw [Array.size_setIfInBounds]; omega), Array.getElem?_setIfInBounds]
    by_cases h1 : o + 1 ≤ j ∧ j < o + 1 + r.length
    · rw [if_pos h1, if_pos (by simp; omega), show j - o = (j - (o + 1)) + 1 by omega, List.getElem?_cons_succ]
    · rw [if_neg h1]
      by_cases h2 : o = j
      · subst h2
        rw [if_pos rfl, if_pos (by omega), if_pos (by simp), Nat.sub_self]; rfl
      · rw [if_neg h2, if_neg (by simp; omega)]
theorem At.setCells {g : Nat} {t : TypeId} : ∀ (vs : List Value) (o : Nat) (w : World) (cs : Array Value), At w g t cs → At (w.setCells g o vs) g t (splice cs o vs)
  | [], _, _, _, h => h
  | v :: r, o, _, _, h => At.setCells r (o + 1) _ _ (h.set o v)
theorem Mod.setCells {M : Nat → Prop} {g : Nat} (hg : M g) : ∀ (vs : List Value) (o : Nat) (w : World), Mod M w (w.setCells g o vs)
  | [], _, w => Mod.refl M w
  | v :: r, o, w => ((Mod.refl M w).setCell ⟨g, o, none⟩ v (fun _ => hg)).trans (Mod.setCells hg r (o + 1) _)
theorem wp_store_agg {P : Program} {o : Oper} {a : Go.Act} {K : Go.Act → World → Prop} {Q : Exit → Go.Act → World → Prop} {w : World} {x y : Operand} {ty : TypeId} (b off : Nat) (t : TypeId) (cs : Array Value) (vs : Array Value) (h : At w b t cs) (hs : off + vs.size ≤ cs.size)
    (hi : (P.info? ty).map (·.size) = some vs.size) (h1 : vs.all (·.oneCell') = true)
    (ho : o.op = .store ty x y) (hx : a.eval x = .pointer (some ⟨b, off, none⟩)) (hy : a.eval y = .agg vs)
    (hK : K (a.put o.dst undef) (w.setCells b off vs.toList)) : o.wp P a w K Q := by
  have hsz : (sizeOf ty).run P w = .ok vs.size w := by
    cases hq : P.info? ty with
    | none => simp [hq] at hi
    | some i => simp [hq] at hi; simp [sizeOf, typeInfo, hq, hi]
  have hst := run_storeCells_cells (P := P) b off vs.toList 0 w (fun j hj => by
      rw [cell_of_row w b _ cs t (0, 0) h, Array.getElem?_eq_getElem (by simp at hj; omega)]; rfl) (fun j hj => frozen_of_row w b _ cs t h) (fun v hv => by
      rw [Array.all_eq_true'] at h1
      exact h1 v (by simpa using hv))
  simp only [Nat.add_zero] at hst
  unfold Oper.wp execOp
  simp [ho, hx, hy, Instr.storeAt, Instr.sureAddr, storeVar, hsz, Value.cells, hst, Oper.upon]
  exact hK
theorem mod_below {M : Nat → Prop} {a b : World} {B : Nat} (h : Mod M a b) (hB : B ≤ a.heap.size) (hm : ∀ i, M i → B ≤ i) : Below B a b :=
  ⟨h.os, h.tape, h.output, h.size, fun i hi => h.block i (by omega) (fun x => by have := hm i x; omega)⟩
end Go.Proofs.Ytgjecemmejaieaa
