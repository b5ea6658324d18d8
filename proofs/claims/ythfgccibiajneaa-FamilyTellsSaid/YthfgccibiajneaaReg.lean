/-
  Plain machinery over any program: what a call may change ('Mod'); a region that leaves its order open, walked in ONE order: what only computes or reads is taken first, what makes or writes comes when it alone is left ('region_sq').
-/
import Derived.WalkKit
import Derived.OrdersHeld
import Derived.Below
namespace Go.Proofs.Ythfgccibiajneaa
open Go.RowKit

/-- From w to w': blocks have come, and of the old ones only those of M may have turned. -/
structure Mod (M : Nat → Prop) (w w' : World) : Prop where
  os : w'.os = w.os
  tape : w'.tape = w.tape
  output : w'.output = w.output
  size : w.heap.size ≤ w'.heap.size
  block : ∀ b, b < w.heap.size → ¬ M b → w'.heap[b]? = w.heap[b]?
section
variable {M N : Nat → Prop} {a b c w w' : World}
theorem Mod.refl (M : Nat → Prop) (w : World) : Mod M w w := ⟨rfl, rfl, rfl, Nat.le_refl _, fun _ _ _ => rfl⟩
theorem Mod.trans (h : Mod M a b) (k : Mod M b c) : Mod M a c :=
  ⟨k.os.trans h.os, k.tape.trans h.tape, k.output.trans h.output, Nat.le_trans h.size k.size, fun i hi hm => (k.block i (Nat.lt_of_lt_of_le hi h.size) hm).trans (h.block i hi hm)⟩
/-- The second may also turn what is new to the first. -/
theorem Mod.step (h : Mod M a b) (k : Mod N b c) (hn : ∀ i, i < a.heap.size → N i → M i) : Mod M a c :=
  ⟨k.os.trans h.os, k.tape.trans h.tape, k.output.trans h.output, Nat.le_trans h.size k.size, fun i hi hm => (k.block i (Nat.lt_of_lt_of_le hi h.size) (fun x => hm (hn i hi x))).trans (h.block i hi hm)⟩
theorem Mod.mono (h : Mod N a b) (hn : ∀ i, i < a.heap.size → N i → M i) : Mod M a b := (Mod.refl M a).step h hn
theorem Mod.drew (h : Mod M a w) : Mod M a w.drew := ⟨h.os, h.tape, h.output, h.size, h.block⟩
theorem Mod.alloc (h : Mod M a w) (o : Obj) : Mod M a (w.alloc o) :=
  ⟨h.os, h.tape, h.output, Nat.le_trans h.size (by simp), fun i hi hm => (Below.heap_alloc w o i (Nat.lt_of_lt_of_le hi h.size)).trans (h.block i hi hm)⟩
theorem Mod.setCell (h : Mod M a w) (p : Addr) (v : Value) (hp : p.block < a.heap.size → M p.block) : Mod M a (w.setCell p v) :=
  ⟨h.os, h.tape, h.output, Nat.le_trans h.size (by simp [World.setCell]), fun i hi hm => (Below.heap_setCell w p v i (fun e => hm (e ▸ hp (e ▸ hi)))).trans (h.block i hi hm)⟩
theorem Mod.grown {row : Option Nat} (h : Mod M a w) (hg : w.grownBy w' row) (hp : ∀ k, row = some k → k < a.heap.size → M k) : Mod M a w' :=
  ⟨hg.os.trans h.os, hg.tape.trans h.tape, hg.output.trans h.output, Nat.le_trans h.size hg.size, fun i hi hm => (hg.block i (Nat.lt_of_lt_of_le hi h.size) (fun e => hm (hp i e.symm hi))).trans (h.block i hi hm)⟩
theorem Mod.of_below (h : Below a.heap.size a b) : Mod M a b := ⟨h.os, h.tape, h.output, h.size, fun i hi _ => h.block i hi⟩
theorem Mod.below (h : Mod M a b) (hm : ∀ i, i < a.heap.size → ¬ M i) : Below a.heap.size a b := ⟨h.os, h.tape, h.output, h.size, fun i hi => h.block i hi (hm i hi)⟩
theorem Mod.cell (h : Mod M a b) {p : Addr} (hp : p.block < a.heap.size) (hm : ¬ M p.block) : b.cell? p = a.cell? p := World.cell?_of_block (h.block p.block hp hm)
theorem Mod.frozen (h : Mod M a b) {p : Addr} (hp : p.block < a.heap.size) (hm : ¬ M p.block) : b.frozen? p = a.frozen? p := World.frozen?_of_block (h.block p.block hp hm)
end
/-- Nothing that was there has turned. -/
def No : Nat → Prop := fun _ => False

section
variable {P : Program} {ops : Array Oper} {Q : Exit → Act → World → Prop} {md : Region.Mode}
theorem wpAnyH_mono {S S' : World → Prop} (h : ∀ w, S w → S' w) : ∀ (fuel : Nat) (listed : Array Bool) (a : Act) (w : World), wpAnyH P md ops Q S fuel listed a w → wpAnyH P md ops Q S' fuel listed a w
  | 0, _, _, _, hh => hh
  | fuel + 1, _, _, _, hh => ⟨hh.1, fun i hi => wpOp_mono (fun a' w' x => ⟨h _ x.1, wpAnyH_mono h fuel _ a' w' x.2⟩) (hh.2 i hi)⟩
/-- A region in one order: 'true': taken first (it yields its value in whatever world may come); 'false': it alone is left to come. E: what is to be shown at the end. -/
def wpSq (P : Program) (ops : Array Oper) (Q : Exit → Act → World → Prop) (M : Nat → Prop) (E : Act → World → Prop) : List (Nat × Bool) → Act → World → Prop
  | [], a, w => E a w
  | (i, true) :: r, a, w => ∃ o v, ops[i]? = some o ∧ (∀ w', Mod M w w' → if Region.wanted o (yielded ops a.tmps) = true then (execOp a.eval o).run P w' = .ok (.value v) w' else v = undef) ∧ wpSq P ops Q M E r (a.put o.dst v) w
  | (i, false) :: r, a, w => wpOp P ops Q i (fun a' w' => Mod M w w' ∧ wpSq P ops Q M E r a' w') a w
def sqOk (md : Region.Mode) (ops : Array Oper) : List (Nat × Bool) → Array Bool → Bool
  | [], _ => true
  | (i, true) :: r, listed => Region.free md ops listed i && (Region.ready md ops listed).contains i && sqOk md ops r (listed.setIfInBounds i true)
  | (i, false) :: r, listed => (Region.ready md ops listed == [i]) && sqOk md ops r (listed.setIfInBounds i true)
/-- Which have come when the row is through. -/
def sqSet (plan : List (Nat × Bool)) (listed : Array Bool) : Array Bool := plan.foldl (fun l x => l.setIfInBounds x.1 true) listed
theorem wpAnyH_of_sq {M : Nat → Prop} (hs : Region.noSelect ops = true) (hQ : ∀ c a d v w, Q (.panic c) (Act.put a d v) w → Q (.panic c) a w) (n : Nat) :
    ∀ (plan : List (Nat × Bool)) (listed : Array Bool) (a : Act) (w : World), sqOk md ops plan listed = true →
      wpSq P ops Q M (fun a w => wpAnyH P md ops Q (Mod M w) n (sqSet plan listed) a w) plan a w → wpAnyH P md ops Q (Mod M w) (n + plan.length) listed a w
  | [], _, _, _, _, h => h
  | (i, true) :: r, listed, a, w, ho, h => by
    simp only [sqOk, Bool.and_eq_true] at ho
    obtain ⟨o, v, hi, hy, hr⟩ := h
    have ih := wpAnyH_of_sq hs hQ n r _ _ w ho.2 hr
    refine wpAnyH_take hi hs ho.1.1 ho.1.2 (fun c a w => hQ c a _ _ w) ?_ (Mod.refl M w) ih
    by_cases hw : Region.wanted o (yielded ops a.tmps) = true
    · exact .inl ⟨hw, fun w' hM => by have := hy w' hM; rwa [if_pos hw] at this⟩
    · exact .inr ⟨by simpa using hw, by have := hy w (Mod.refl M w); rwa [if_neg hw] at this⟩
  | (i, false) :: r, listed, a, w, ho, h => by
    simp only [sqOk, Bool.and_eq_true, beq_iff_eq] at ho
    refine wpAnyH_all ho.1 (by simp) (fun j hj => ?_)
    simp only [List.mem_singleton] at hj
    subst hj
    exact wpOp_mono (fun a' w' x => ⟨x.1, wpAnyH_mono (fun _ y => x.1.trans y) _ _ _ _ (wpAnyH_of_sq hs hQ n r _ a' w' ho.2 x.2)⟩) h
theorem wpSq_mono {M : Nat → Prop} {E E' : Act → World → Prop} (hE : ∀ a w, E a w → E' a w) : ∀ (plan : List (Nat × Bool)) (a : Act) (w : World), wpSq P ops Q M E plan a w → wpSq P ops Q M E' plan a w
  | [], a, w, h => hE a w h
  | (_, true) :: r, _, w, ⟨o, v, h1, h2, h3⟩ => ⟨o, v, h1, h2, wpSq_mono hE r _ w h3⟩
  | (_, false) :: r, _, _, h => wpOp_mono (fun a' w' x => ⟨x.1, wpSq_mono hE r a' w' x.2⟩) h
/-- THE BEGINNING. -/
theorem region_sq {id : Nat} {a : Act} {w : World} (M : Nat → Prop) (plan : List (Nat × Bool)) (hm : P.follows .mixedOrders = true)
    (ho : (Region.noSelect ops && (plan.length == ops.size) && sqOk .any ops plan (Array.replicate ops.size false) && (Region.ready .any ops (sqSet plan (Array.replicate ops.size false))).isEmpty) = true)
    (hQ : ∀ c a d v w, Q (.panic c) (Act.put a d v) w → Q (.panic c) a w)
    (h : wpSq P ops Q M (Q .normal) plan a w.drew) : (Code.region id ops true).wp P Q a w := by
  simp only [Bool.and_eq_true, beq_iff_eq, List.isEmpty_iff] at ho
  have := wpAnyH_of_sq (md := .any) ho.1.1.1 hQ 0 plan _ a w.drew ho.1.2 (wpSq_mono (fun a w hq => wpAnyH_done ho.2 hq 0) plan _ _ h)
  rw [Nat.zero_add, ho.1.1.2] at this
  exact wp_region_held hm this
/-- The beginning, where two are left to come at a place: the row till there ('n' are left). -/
theorem region_sq_till {id : Nat} {a : Act} {w : World} (M : Nat → Prop) (plan : List (Nat × Bool)) (n : Nat) (hm : P.follows .mixedOrders = true)
    (ho : (Region.noSelect ops && (n + plan.length == ops.size) && sqOk .any ops plan (Array.replicate ops.size false)) = true)
    (hQ : ∀ c a d v w, Q (.panic c) (Act.put a d v) w → Q (.panic c) a w)
    (h : wpSq P ops Q M (fun a w => wpAnyH P .any ops Q (Mod M w) n (sqSet plan (Array.replicate ops.size false)) a w) plan a w.drew) : (Code.region id ops true).wp P Q a w := by
  simp only [Bool.and_eq_true, beq_iff_eq] at ho
  have := wpAnyH_of_sq (md := .any) ho.1.1 hQ n plan _ a w.drew ho.2 h
  rw [ho.1.2] at this
  exact wp_region_held hm this
/-- A row on the way. -/
theorem any_sq {M : Nat → Prop} {n : Nat} {listed : Array Bool} {a : Act} {w : World} (plan : List (Nat × Bool)) (ho : (Region.noSelect ops && sqOk md ops plan listed) = true)
    (hQ : ∀ c a d v w, Q (.panic c) (Act.put a d v) w → Q (.panic c) a w)
    (h : wpSq P ops Q M (fun a w => wpAnyH P md ops Q (Mod M w) n (sqSet plan listed) a w) plan a w) : wpAnyH P md ops Q (Mod M w) (n + plan.length) listed a w := by
  simp only [Bool.and_eq_true] at ho
  exact wpAnyH_of_sq ho.1 hQ n plan listed a w ho.2 h
theorem any_end {M : Nat → Prop} {listed : Array Bool} {a : Act} {w : World} (ho : (Region.ready md ops listed).isEmpty = true) (h : Q .normal a w) : wpAnyH P md ops Q (Mod M w) 0 listed a w :=
  wpAnyH_done (by simpa using ho) h 0
/-- Two are left to come: either may be the first. -/
theorem any_two {M : Nat → Prop} {n : Nat} {listed : Array Bool} {a : Act} {w : World} (i j : Nat) (ho : (Region.ready md ops listed == [i, j]) = true)
    (h1 : wpSq P ops Q M (fun a w => wpAnyH P md ops Q (Mod M w) n (listed.setIfInBounds i true) a w) [(i, false)] a w)
    (h2 : wpSq P ops Q M (fun a w => wpAnyH P md ops Q (Mod M w) n (listed.setIfInBounds j true) a w) [(j, false)] a w) : wpAnyH P md ops Q (Mod M w) (n + 1) listed a w := by
  simp only [beq_iff_eq] at ho
  have key : ∀ (k : Nat), wpSq P ops Q M (fun a w => wpAnyH P md ops Q (Mod M w) n (listed.setIfInBounds k true) a w) [(k, false)] a w →
      wpOp P ops Q k (fun a' w' => Mod M w w' ∧ wpAnyH P md ops Q (Mod M w) n (listed.setIfInBounds k true) a' w') a w := fun k h =>
    wpOp_mono (fun a' w' x => ⟨x.1, wpAnyH_mono (fun _ y => x.1.trans y) _ _ _ _ x.2⟩) h
  refine wpAnyH_all ho (by simp) (fun k hk => ?_)
  simp only [List.mem_cons, List.not_mem_nil, or_false] at hk
  rcases hk with rfl | rfl
  · exact key _ h1
  · exact key _ h2
/-! A second phase: what comes last and waits for all that was taken (a store behind its loads) need not keep what was read. -/
/-- Whatever order is picked: behind each operation S holds, but for those of D. -/
def wpAnyR (P : Program) (md : Region.Mode) (ops : Array Oper) (Q : Exit → Act → World → Prop) (D : Nat → Bool) (S : World → Prop) : Nat → Array Bool → Act → World → Prop
  | 0, listed, a, w => Region.ready md ops listed = [] ∧ Q .normal a w
  | fuel + 1, listed, a, w => (Region.ready md ops listed = [] → Q .normal a w) ∧
    ∀ i ∈ Region.ready md ops listed, wpOp P ops Q i (fun a' w' => (D i = false → S w') ∧ wpAnyR P md ops Q D S fuel (listed.setIfInBounds i true) a' w') a w
theorem wpAny_of_R {D : Nat → Bool} {S : World → Prop} : ∀ (fuel : Nat) (listed : Array Bool) (a : Act) (w : World), wpAnyR P md ops Q D S fuel listed a w → wpAny P md ops Q fuel listed a w
  | 0, _, _, _, h => h
  | fuel + 1, _, _, _, h => ⟨h.1, fun i hi => wpOp_mono (fun a' w' x => wpAny_of_R fuel _ a' w' x.2) (h.2 i hi)⟩
theorem wpAnyR_of_any {D : Nat → Bool} {S : World → Prop} : ∀ (fuel : Nat) (listed : Array Bool) (a : Act) (w : World), (∀ i, i < ops.size → listed.getD i true = false → D i = true) →
    wpAny P md ops Q fuel listed a w → wpAnyR P md ops Q D S fuel listed a w
  | 0, _, _, _, _, h => h
  | fuel + 1, listed, _, _, hD, h => ⟨h.1, fun i hi => wpOp_mono (fun a' w' x => by
      obtain ⟨hun, oj, hoj, _⟩ := mem_ready.1 hi
      have hlt : i < ops.size := (Array.getElem?_eq_some_iff.1 hoj).1
      refine ⟨fun h0 => (by rw [hD i hlt hun] at h0; cases h0), wpAnyR_of_any fuel _ a' w' (fun k hk hku => hD k hk ?_) x⟩
      by_cases hik : i = k
      · subst hik; exact hun
      · rwa [getD_set_ne true hik] at hku) (h.2 i hi)⟩
theorem wpAnyR_mono {D : Nat → Bool} {S S' : World → Prop} (h : ∀ w, S w → S' w) : ∀ (fuel : Nat) (listed : Array Bool) (a : Act) (w : World), wpAnyR P md ops Q D S fuel listed a w → wpAnyR P md ops Q D S' fuel listed a w
  | 0, _, _, _, hh => hh
  | fuel + 1, _, _, _, hh => ⟨hh.1, fun i hi => wpOp_mono (fun a' w' x => ⟨fun hd => h _ (x.1 hd), wpAnyR_mono h fuel _ a' w' x.2⟩) (hh.2 i hi)⟩
theorem wpAnyR_take {D : Nat → Bool} {S : World → Prop} {i : Nat} {oi : Oper} {v : Value} (hi : ops[i]? = some oi) (hsel : Region.noSelect ops = true)
    (hD : ∀ j oj, ops[j]? = some oj → D j = true → ∃ e ∈ oj.after, Region.binds md e = true ∧ e.on = i)
    (hQ : ∀ c a w, Q (.panic c) (a.put oi.dst v) w → Q (.panic c) a w) :
    ∀ (fuel : Nat) (listed : Array Bool) (a : Act) (w : World),
      (∀ j oj, ops[j]? = some oj → j ≠ i → listed.getD j true = false → (∀ e ∈ oj.after, Region.binds md e = true → e.on ≠ i) → oi.apart ops oj = true) →
      i ∈ Region.ready md ops listed → YieldsIf P ops S oi v a → S w →
      wpAnyR P md ops Q D S fuel (listed.setIfInBounds i true) (a.put oi.dst v) w → wpAnyR P md ops Q D S (fuel + 1) listed a w := by
  intro fuel
  induction fuel with
  | zero =>
    intro listed a w _ hr hy hS H
    refine ⟨fun h => (by rw [h] at hr; cases hr), fun j hj => ?_⟩
    by_cases hji : j = i
    · subst hji; exact hy.wpOp hi hS ⟨fun _ => hS, H⟩
    · have := ready_mono hj hji
      rw [H.1] at this
      cases this
  | succ fuel ih =>
    intro listed a w hfree hr hy hS H
    refine ⟨fun h => (by rw [h] at hr; cases hr), fun j hj => ?_⟩
    by_cases hji : j = i
    · subst hji; exact hy.wpOp hi hS ⟨fun _ => hS, H⟩
    · have h1 := H.2 j (ready_mono hj hji)
      obtain ⟨hjun, oj, hoj, hall⟩ := mem_ready.1 hj
      have hnot : ∀ e ∈ oj.after, Region.binds md e = true → e.on ≠ i := fun e he hb heq => by
        have h1 := hall e he hb
        have h0 := (mem_ready.1 hr).1
        rw [heq] at h1
        rcases Nat.lt_or_ge i listed.size with h' | h'
        · simp [h'] at h0 h1; rw [h0] at h1; cases h1
        · simp [Array.getElem?_eq_none h'] at h1
      have hDj : D j = false := by
        cases hd : D j with
        | false => rfl
        | true => obtain ⟨e, he, hb, hon⟩ := hD j oj hoj hd; exact absurd hon (hnot e he hb)
      have h2 := wpOp_putIf hoj (hfree j oj hoj hji hjun hnot) (fun cs b => Region.noSelect_spec hsel i oi cs b hi) (fun cs b => Region.noSelect_spec hsel j oj cs b hoj) hQ hy h1
      have hfree' : ∀ k ok, ops[k]? = some ok → k ≠ i → (listed.setIfInBounds j true).getD k true = false →
          (∀ e ∈ ok.after, Region.binds md e = true → e.on ≠ i) → oi.apart ops ok = true := fun k ok hk hki hun hno => by
        refine hfree k ok hk hki ?_ hno
        by_cases hjk : j = k
        · subst hjk; exact hjun
        · rw [getD_set_ne true hjk] at hun; exact hun
      refine wpOp_mono (fun a' w' h3 => ⟨fun _ => h3.2.1 hDj, ih (listed.setIfInBounds j true) a' w' hfree' (ready_mono hr (Ne.symm hji)) h3.1 (h3.2.1 hDj) ?_⟩) h2
      rw [Array.setIfInBounds_comm _ _ hji]
      exact h3.2.2
theorem wpAnyR_of_sq {M : Nat → Prop} (D : Nat → Bool) (hs : Region.noSelect ops = true) (hQ : ∀ c a d v w, Q (.panic c) (Act.put a d v) w → Q (.panic c) a w) (n : Nat) :
    ∀ (plan : List (Nat × Bool)) (listed : Array Bool) (a : Act) (w : World), sqOk md ops plan listed = true →
      (∀ i, (i, true) ∈ plan → ∀ j oj, ops[j]? = some oj → D j = true → ∃ e ∈ oj.after, Region.binds md e = true ∧ e.on = i) →
      wpSq P ops Q M (fun a w => wpAnyR P md ops Q D (Mod M w) n (sqSet plan listed) a w) plan a w → wpAnyR P md ops Q D (Mod M w) (n + plan.length) listed a w
  | [], _, _, _, _, _, h => h
  | (i, true) :: r, listed, a, w, ho, hD, h => by
    simp only [sqOk, Bool.and_eq_true] at ho
    obtain ⟨o, v, hi, hy, hr⟩ := h
    have ih := wpAnyR_of_sq D hs hQ n r _ _ w ho.2 (fun k hk => hD k (List.mem_cons_of_mem _ hk)) hr
    refine wpAnyR_take hi hs (hD i List.mem_cons_self) (fun c a w => hQ c a _ _ w) _ listed a w (Region.free_spec hi ho.1.1) (by simpa using ho.1.2) ?_ (Mod.refl M w) ih
    by_cases hw : Region.wanted o (yielded ops a.tmps) = true
    · exact .inl ⟨hw, fun w' hM => by have := hy w' hM; rwa [if_pos hw] at this⟩
    · exact .inr ⟨by simpa using hw, by have := hy w (Mod.refl M w); rwa [if_neg hw] at this⟩
  | (i, false) :: r, listed, a, w, ho, hD, h => by
    simp only [sqOk, Bool.and_eq_true, beq_iff_eq] at ho
    refine ⟨fun h0 => absurd (ho.1.symm.trans h0) (by simp), fun j hj => ?_⟩
    rw [ho.1, List.mem_singleton] at hj
    subst hj
    exact wpOp_mono (fun a' w' x => ⟨fun _ => x.1, wpAnyR_mono (fun _ y => x.1.trans y) _ _ _ _ (wpAnyR_of_sq D hs hQ n r _ a' w' ho.2 (fun k hk => hD k (List.mem_cons_of_mem _ hk)) x.2)⟩) h
/-- Does operation j wait for each that was taken? -/
def waitsAll (md : Region.Mode) (ops : Array Oper) (plan : List (Nat × Bool)) (j : Nat) : Bool :=
  match ops[j]? with
  | some o => plan.all fun x => !x.2 || o.after.any fun e => Region.binds md e && e.on == x.1
  | none => true
theorem waitsAll_spec {plan : List (Nat × Bool)} {j i : Nat} {o : Oper} (hj : ops[j]? = some o) (h : waitsAll md ops plan j = true) (hi : (i, true) ∈ plan) : ∃ e ∈ o.after, Region.binds md e = true ∧ e.on = i := by
  simp only [waitsAll, hj, List.all_eq_true] at h
  have h1 := h _ hi
  simp only [Bool.not_true, Bool.false_or] at h1
  obtain ⟨e, he, hb⟩ := Array.any_eq_true'.1 h1
  simp only [Bool.and_eq_true, beq_iff_eq] at hb
  exact ⟨e, he, hb.1, hb.2⟩
/-- THE BEGINNING, in two phases: the second's operations wait for all that the first takes: they may change what it read. -/
theorem region_sq2 {id : Nat} {a : Act} {w : World} (M N : Nat → Prop) (plan plan2 : List (Nat × Bool)) (hm : P.follows .mixedOrders = true)
    (ho : (Region.noSelect ops && (plan2.length + plan.length == ops.size) && sqOk .any ops plan (Array.replicate ops.size false) && sqOk .any ops plan2 (sqSet plan (Array.replicate ops.size false))
      && (Region.ready .any ops (sqSet plan2 (sqSet plan (Array.replicate ops.size false)))).isEmpty
      && (List.range ops.size).all fun i => (sqSet plan (Array.replicate ops.size false)).getD i true || waitsAll .any ops plan i) = true)
    (hQ : ∀ c a d v w, Q (.panic c) (Act.put a d v) w → Q (.panic c) a w)
    (h : wpSq P ops Q M (fun a w => wpSq P ops Q N (Q .normal) plan2 a w) plan a w.drew) : (Code.region id ops true).wp P Q a w := by
  simp only [Bool.and_eq_true, beq_iff_eq, List.isEmpty_iff, List.all_eq_true, List.mem_range, Bool.or_eq_true] at ho
  obtain ⟨⟨⟨⟨⟨hs, hl⟩, h1⟩, h2⟩, he⟩, hd⟩ := ho
  have key : ∀ a w, wpSq P ops Q N (Q .normal) plan2 a w → wpAnyR P .any ops Q (waitsAll .any ops plan) (Mod M w) plan2.length (sqSet plan (Array.replicate ops.size false)) a w := fun a w x => by
    refine wpAnyR_of_any _ _ a w (fun i hi hu => by rcases hd i hi with h | h <;> simp_all) ?_
    have := wpAnyH_of_sq (md := .any) hs hQ 0 plan2 _ a w h2 (wpSq_mono (fun a w hq => wpAnyH_done he hq 0) plan2 _ _ x)
    rw [Nat.zero_add] at this
    exact wpAny_of_held _ _ _ _ this
  have := wpAnyR_of_sq (md := .any) (waitsAll .any ops plan) hs hQ plan2.length plan _ a w.drew h1 (fun i hi j oj hj hw => waitsAll_spec hj hw hi) (wpSq_mono key plan _ _ h)
  rw [hl] at this
  exact wp_region_any hm (wpAny_of_R _ _ _ _ this)
theorem of_toList {i : Nat} {o : Oper} (h : ops.toList[i]? = some o) : ops[i]? = some o := by rwa [Array.getElem?_toList] at h
/-- One that only computes or reads. -/
theorem sq_take {M : Nat → Prop} {E : Act → World → Prop} {i : Nat} {r : List (Nat × Bool)} {a : Act} {w : World} {o : Oper} {v : Value} (hi : ops.toList[i]? = some o)
    (hy : ∀ w', Mod M w w' → if Region.wanted o (yielded ops a.tmps) = true then (execOp a.eval o).run P w' = .ok (.value v) w' else v = undef)
    (h : wpSq P ops Q M E r (a.put o.dst v) w) : wpSq P ops Q M E ((i, true) :: r) a w := ⟨o, v, of_toList hi, hy, h⟩
theorem sq_yes {M : Nat → Prop} {E : Act → World → Prop} {i : Nat} {r : List (Nat × Bool)} {a : Act} {w : World} {o : Oper} {v : Value} (hi : ops.toList[i]? = some o)
    (hw : Region.wanted o (yielded ops a.tmps) = true) (hy : ∀ w', Mod M w w' → (execOp a.eval o).run P w' = .ok (.value v) w')
    (h : wpSq P ops Q M E r (a.put o.dst v) w) : wpSq P ops Q M E ((i, true) :: r) a w   := ⟨o, v, of_toList hi, fun w' hM => by rw [if_pos hw]; exact hy w' hM, h⟩
theorem sq_no {M : Nat → Prop} {E : Act → World → Prop} {i : Nat} {r : List (Nat × Bool)} {a : Act} {w : World} {o : Oper} (hi : ops.toList[i]? = some o)
    (hw : Region.wanted o (yielded ops a.tmps) = false) (h : wpSq P ops Q M E r (a.put o.dst undef) w) : wpSq P ops Q M E ((i, true) :: r) a w   := ⟨o, undef, of_toList hi, fun w' hM => by rw [hw]; rfl, h⟩
/-- One that makes or writes. -/
theorem sq_do {M : Nat → Prop} {E : Act → World → Prop} {i : Nat} {r : List (Nat × Bool)} {a : Act} {w : World} {o : Oper} (hi : ops.toList[i]? = some o)
    (h : ∀ K : Act → World → Prop, (∀ a' w', (Mod M w w' ∧ wpSq P ops Q M E r a' w') → K a' w') → if Region.wanted o (yielded ops a.tmps) = true then o.wp P a w K Q else K (a.put o.dst undef) w) : wpSq P ops Q M E ((i, false) :: r) a w := by
  have := h _ (fun _ _ h => h)
  show wpOp P ops Q i _ a w
  unfold wpOp
  simp only [of_toList hi]
  split
  · rename_i hw; rw [if_pos hw] at this; exact .inl this
  · rename_i hw; rw [if_neg hw] at this; exact this
theorem sq_do_yes {M : Nat → Prop} {E : Act → World → Prop} {i : Nat} {r : List (Nat × Bool)} {a : Act} {w : World} {o : Oper} (hi : ops.toList[i]? = some o)
    (hw : Region.wanted o (yielded ops a.tmps) = true)
    (h : ∀ K : Act → World → Prop, (∀ a' w', (Mod M w w' ∧ wpSq P ops Q M E r a' w') → K a' w') → o.wp P a w K Q) : wpSq P ops Q M E ((i, false) :: r) a w :=
  sq_do hi fun K hK => by rw [if_pos hw]; exact h K hK
theorem sq_do_no {M : Nat → Prop} {E : Act → World → Prop} {i : Nat} {r : List (Nat × Bool)} {a : Act} {w : World} {o : Oper} (hi : ops.toList[i]? = some o)
    (hw : Region.wanted o (yielded ops a.tmps) = false) (h : wpSq P ops Q M E r (a.put o.dst undef) w) : wpSq P ops Q M E ((i, false) :: r) a w :=
  sq_do hi fun K hK => by rw [hw]; exact hK _ _ ⟨Mod.refl M w, h⟩
theorem sq_end {M : Nat → Prop} {E : Act → World → Prop} {a : Act} {w : World} (h : E a w) : wpSq P ops Q M E [] a w := h
end
end Go.Proofs.Ythfgccibiajneaa
