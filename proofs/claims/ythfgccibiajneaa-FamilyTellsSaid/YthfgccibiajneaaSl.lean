/-
  Slices read as lists of anything: k cells an element; rows of the call's own, and slices that only show.
-/
import Derived.Test.YthfgccibiajneaaHeap2
import Derived.Test.YthfgccibiajneaaAggB
namespace Go.Proofs.Ythfgccibiajneaa
open Go.RowKit
section
variable {α : Type} {k : Nat} {enc : α → List Value} {e : TypeId} {w w' : World} {B n c : Nat} {v : Value} {a : Option Addr} {L L2 : List α}
theorem flatLen (hk : ∀ x, (enc x).length = k) : ∀ L : List α, (L.flatMap enc).length = L.length * k
  | [] => by simp
  | x :: r => by rw [List.flatMap_cons, List.length_append, hk, flatLen hk r, List.length_cons, Nat.succ_mul]; omega
theorem flatGet (hk : ∀ x, (enc x).length = k) : ∀ (L : List α) (i j : Nat), j < k → (L.flatMap enc)[i * k + j]? = (L[i]?).bind fun x => (enc x)[j]?
  | [], i, j, _ => by simp
  | o :: l, 0, j, hj => by
    rw [List.flatMap_cons, List.getElem?_append_left (by rw [hk]; omega)]
    simp
  | o :: l, i + 1, j, hj => by
    have hl := hk o
    have e : (i + 1) * k + j = k + (i * k + j) := by rw [Nat.succ_mul]; omega
    rw [List.flatMap_cons, List.getElem?_append_right (by rw [hl, e]; omega), hl, e, Nat.add_sub_cancel_left, flatGet hk l i j hj, List.getElem?_cons_succ]
theorem idxLt {i j k n : Nat} (hi : i < n) (hj : j < k) : i * k + j < n * k := by
  have := Nat.mul_le_mul_right k (show i + 1 ≤ n from hi)
  rw [Nat.succ_mul] at this
  omega
/-- A slice that holds L in a row of the call's own, at or above B. -/
def Sl (k : Nat) (enc : α → List Value) (e : TypeId) (w : World) (B : Nat) (v : Value) (L : List α) : Prop := w.ownsRow B e k v L.length (L.flatMap enc)
theorem Sl.nil (k : Nat) (enc : α → List Value) (e : TypeId) (w : World) (B : Nat) : Sl k enc e w B (.slice none 0 0) [] := ⟨by simp, .inl ⟨rfl, rfl⟩⟩
theorem Sl.empty (k : Nat) (enc : α → List Value) (e : TypeId) (w : World) (n : Nat) (hn : n = w.heap.size) (hB : B ≤ n) : Sl k enc e (w.alloc (.cells #[] e)) B (.slice (some ⟨n, 0, none⟩) 0 0) [] := by
  subst hn
  exact ⟨by simp, .inr ⟨w.heap.size, 0, #[], rfl, hB, heap_alloc_new w _, Nat.le_refl _, Nat.zero_le _, by simp, by simp⟩⟩
theorem Sl.of (hk : ∀ x, (enc x).length = k) {g : Nat} {cs : Array Value} (h : At w g e cs) (hB : B ≤ g) (hs : cs.toList = L.flatMap enc) (hm : L.length ≤ maxLen) : Sl k enc e w B (.slice (some ⟨g, 0, none⟩) L.length L.length) L := by
  have hl := flatLen hk L
  refine ⟨hl, .inr ⟨g, _, cs, rfl, hB, h, Nat.le_refl _, hm, ?_, ?_⟩⟩
  · rw [← hl, ← hs]; simp
  · rw [hs, ← hl]; exact List.take_length
theorem Sl.same (h : Sl k enc e w B v L) (hb : ∀ g, v.ownBlock = some g → g < w.heap.size → w'.heap[g]? = w.heap[g]?) : Sl k enc e w' B v L := by
  refine ⟨h.1, ?_⟩
  rcases h.2 with h1 | ⟨g, cap, cur, rfl, h2, h3, h4⟩
  · exact .inl h1
  · exact .inr ⟨g, cap, cur, rfl, h2, (hb g rfl (Array.getElem?_eq_some_iff.1 h3).1).trans h3, h4⟩
theorem Sl.below (h : Sl k enc e w B v L) (hb : Below w.heap.size w w') : Sl k enc e w' B v L := h.same fun g _ hg => hb.block g hg
theorem Sl.drew (h : Sl k enc e w B v L) : Sl k enc e w.drew B v L := h
theorem Sl.alloc (h : Sl k enc e w B v L) (o : Obj) : Sl k enc e (w.alloc o) B v L := h.same fun g _ hg => Below.heap_alloc w o g hg
theorem Sl.base {b' : Nat} (h : Sl k enc e w B v L) (hb : b' ≤ B) : Sl k enc e w b' v L := by
  refine ⟨h.1, ?_⟩
  rcases h.2 with h1 | ⟨g, cap, cur, h1, h2, h3⟩
  · exact .inl h1
  · exact .inr ⟨g, cap, cur, h1, Nat.le_trans hb h2, h3⟩
theorem Sl.ge {g : Nat} (h : Sl k enc e w B v L) (hg : v.ownBlock = some g) : B ≤ g ∧ g < w.heap.size := World.ownsRow.lt h g hg
theorem Sl.mod {M : Nat → Prop} (h : Sl k enc e w B v L) (hm : Mod M w w') (hM : ∀ g, v.ownBlock = some g → ¬ M g) : Sl k enc e w' B v L := h.same fun g hv hg => hm.block g hg (hM g hv)
theorem Sl.modb {M : Nat → Prop} (h : Sl k enc e w B v L) (hm : Mod M w w') (hM : ∀ g, B ≤ g → ¬ M g) : Sl k enc e w' B v L := h.mod hm fun g hv => hM g (h.ge hv).1
theorem Sl.far (h : Sl k enc e w B v L) {p : Addr} (hp : v.ownBlock ≠ some p.block) (u : Value) : Sl k enc e (w.setCell p u) B v L := h.same fun g hv _ => Below.heap_setCell w p u g (fun e => hp (by rw [hv, e]))
/-- nil, or a block. -/
theorem Sl.cases (h : Sl k enc e w B v L) : (v = .slice none 0 0 ∧ L = []) ∨ ∃ g c cur, v = .slice (some ⟨g, 0, none⟩) L.length c ∧ B ≤ g ∧ At w g e cur ∧ L.length ≤ c ∧ c ≤ maxLen ∧ cur.size = c * k ∧ cur.toList.take (L.length * k) = L.flatMap enc := by
  rcases h.2 with ⟨h1, h2⟩ | ⟨g, cap, cur, h1, h2, h3, h4, h5, h6, h7⟩
  · exact .inl ⟨h1, List.eq_nil_of_length_eq_zero h2⟩
  · exact .inr ⟨g, cap, cur, h1, h2, h3, h4, h5, h6, h7⟩
theorem Sl.form (h : Sl k enc e w B v L) : ∃ a c, v = .slice a L.length c := by
  rcases h.cases with ⟨h1, h2⟩ | ⟨g, c, cur, h1, _⟩
  · exact ⟨none, 0, by rw [h1, h2]; rfl⟩
  · exact ⟨_, _, h1⟩
/-- A slice that shows L. -/
def Rd (k : Nat) (enc : α → List Value) (w : World) (a : Option Addr) (n : Nat) (L : List α) : Prop :=
  L.length = n ∧ (0 < n → ∃ b o, a = some ⟨b, o, none⟩ ∧ b < w.heap.size ∧ ∀ i x, L[i]? = some x → ∀ j, j < k → w.cell? ⟨b, o + i * k + j, none⟩ = (enc x)[j]?)
theorem Rd.same (h : Rd k enc w a n L) (hs : w.heap.size ≤ w'.heap.size) (hb : ∀ b o, a = some ⟨b, o, none⟩ → b < w.heap.size → w'.heap[b]? = w.heap[b]?) : Rd k enc w' a n L := by
  refine ⟨h.1, fun hn => ?_⟩
  obtain ⟨b, o, rfl, hlt, hc⟩ := h.2 hn
  refine ⟨b, o, rfl, Nat.lt_of_lt_of_le hlt hs, fun i x hx j hj => ?_⟩
  rw [← hc i x hx j hj]
  exact World.cell?_of_block (a := ⟨b, o + i * k + j, none⟩) (hb b o rfl hlt)
theorem Rd.below (h : Rd k enc w a n L) (hb : Below w.heap.size w w') : Rd k enc w' a n L := h.same hb.size fun b _ _ hlt => hb.block b hlt
theorem Rd.drew (h : Rd k enc w a n L) : Rd k enc w.drew a n L := h
theorem Rd.alloc (h : Rd k enc w a n L) (o : Obj) : Rd k enc (w.alloc o) a n L := h.same (by simp) fun b _ _ hlt => Below.heap_alloc w o b hlt
theorem Rd.mod {M : Nat → Prop} (h : Rd k enc w a n L) (hm : Mod M w w') (hM : ∀ b o, a = some ⟨b, o, none⟩ → b < w.heap.size → ¬ M b) : Rd k enc w' a n L := h.same hm.size fun b o hab hlt => hm.block b hlt (hM b o hab hlt)
theorem Rd.head (h : Rd k enc w a n L) (t : Nat) (ht : t ≤ n) : Rd k enc w a t (L.take t) := by
  refine ⟨by rw [List.length_take, h.1]; omega, fun hn => ?_⟩
  obtain ⟨b, o, hab, hlt, hc⟩ := h.2 (by omega)
  refine ⟨b, o, hab, hlt, fun i x hx j hj => hc i x ?_ j hj⟩
  rw [List.getElem?_take] at hx
  split at hx
  · exact hx
  · cases hx
theorem Rd.tail {b o : Nat} (h : Rd k enc w (some ⟨b, o, none⟩) n L) (t : Nat) : Rd k enc w (some ⟨b, o + t * k, none⟩) (n - t) (L.drop t) := by
  refine ⟨by rw [List.length_drop, h.1], fun hn => ?_⟩
  obtain ⟨b', o', hab, hlt, hc⟩ := h.2 (by omega)
  simp only [Option.some.injEq, Addr.mk.injEq, and_true] at hab
  obtain ⟨rfl, rfl⟩ := hab
  refine ⟨b, _, rfl, hlt, fun i x hx j hj => ?_⟩
  rw [List.getElem?_drop] at hx
  rw [← hc (t + i) x hx j hj, Nat.add_mul, Nat.add_assoc o]
/-- .. in the walk's own spelling of 's[t:]'. -/
theorem Rd.tail_if {b o : Nat} (h : Rd k enc w (some ⟨b, o, none⟩) n L) (t : Nat) (hc : n ≤ c) : Rd k enc w (if c = t then some ⟨b, o, none⟩ else some ⟨b, o + t * k, none⟩) (n - t) (L.drop t) := by
  split
  · refine ⟨by rw [List.length_drop, h.1], fun hn => by omega⟩
  · exact h.tail t
theorem Rd.none_tail (h : Rd k enc w none n L) (t : Nat) (a' : Option Addr) : Rd k enc w a' (n - t) (L.drop t) := by
  refine ⟨by rw [List.length_drop, h.1], fun hn => ?_⟩
  obtain ⟨b', o', hab, _⟩ := h.2 (by omega)
  cases hab
/-- An empty one, wherever it points to. -/
theorem Rd.zero (k : Nat) (enc : α → List Value) (w : World) (a : Option Addr) : Rd k enc w a 0 [] := ⟨rfl, fun h => absurd h (by omega)⟩
theorem Sl.rd {m : Nat} (hk : ∀ x, (enc x).length = k) (h : Sl k enc e w B (.slice a m c) L) : Rd k enc w a m L ∧ m = L.length ∧ L.length ≤ c := by
  rcases h.cases with ⟨h1, rfl⟩ | ⟨g, c', cur, h1, h2, h3, h4, h5, h6, h7⟩
  · simp only [Value.slice.injEq] at h1
    obtain ⟨rfl, rfl, rfl⟩ := h1
    exact ⟨Rd.zero _ _ _ _, rfl, Nat.le_refl _⟩
  · simp only [Value.slice.injEq] at h1
    obtain ⟨rfl, rfl, rfl⟩ := h1
    refine ⟨⟨rfl, fun hn => ⟨g, 0, rfl, h3.lt, fun i x hx j hj => ?_⟩⟩, rfl, h4⟩
    have hi : i < L.length := (List.getElem?_eq_some_iff.1 hx).1
    have hf := flatGet hk L i j hj
    rw [← h7, hx, List.getElem?_take, if_pos (idxLt hi hj), Array.getElem?_toList] at hf
    rw [Nat.zero_add, h3.cell, hf]; rfl
/-- A slice that came in: it lies below B. -/
def Ri (B : Nat) (k : Nat) (enc : α → List Value) (w : World) (a : Option Addr) (n : Nat) (L : List α) : Prop := Rd k enc w a n L ∧ ∀ b o, 0 < n → a = some ⟨b, o, none⟩ → b < B
theorem Ri.below {B : Nat} (h : Ri B k enc w a n L) (hb : Below w.heap.size w w') : Ri B k enc w' a n L := ⟨h.1.below hb, h.2⟩
theorem Ri.drew {B : Nat} (h : Ri B k enc w a n L) : Ri B k enc w.drew a n L := h
theorem Ri.alloc {B : Nat} (h : Ri B k enc w a n L) (o : Obj) : Ri B k enc (w.alloc o) a n L := ⟨h.1.alloc o, h.2⟩
theorem Rd.riB {B : Nat} (h : Rd k enc w a n L) (hB : ∀ b o, a = some ⟨b, o, none⟩ → b < B) : Ri B k enc w a n L := ⟨h, fun b o _ hab => hB b o hab⟩
theorem Ri.none0 (B : Nat) (k : Nat) (enc : α → List Value) (w : World) (a : Option Addr) : Ri B k enc w a 0 [] := ⟨Rd.zero k enc w a, fun _ _ h => absurd h (by omega)⟩
theorem Ri.mod {M : Nat → Prop} {B : Nat} (h : Ri B k enc w a n L) (hm : Mod M w w') (hM : ∀ i, M i → B ≤ i) : Ri B k enc w' a n L := by
  refine ⟨?_, h.2⟩
  rcases Nat.eq_zero_or_pos n with h0 | h0
  · subst h0
    exact ⟨h.1.1, fun h => absurd h (by omega)⟩
  · exact h.1.mod hm (fun b o hab _ hb => by have := h.2 b o h0 hab; have := hM b hb; omega)
theorem Rd.ri (h : Rd k enc w a n L) : Ri w.heap.size k enc w a n L := by
  refine ⟨h, fun b o h0 hab => ?_⟩
  obtain ⟨b', o', hab', hlt, _⟩ := h.2 h0
  rw [hab] at hab'
  simp only [Option.some.injEq, Addr.mk.injEq, and_true] at hab'
  omega
theorem Ri.get {B b o : Nat} (h : Ri B k enc w (some ⟨b, o, none⟩) n L) (t : Nat) (x : α) (hx : L[t]? = some x) : b < B ∧ b < w.heap.size ∧ ∀ j, j < k → w.cell? ⟨b, o + t * k + j, none⟩ = (enc x)[j]? := by
  have ht : t < n := by have := (List.getElem?_eq_some_iff.1 hx).1; rw [h.1.1] at this; exact this
  obtain ⟨b', o', hab, hlt, hc⟩ := h.1.2 (by omega)
  simp only [Option.some.injEq, Addr.mk.injEq, and_true] at hab
  obtain ⟨rfl, rfl⟩ := hab
  exact ⟨h.2 b o (by omega) rfl, hlt, fun j hj => hc t x hx j hj⟩
theorem Ri.addr {B : Nat} (h : Ri B k enc w a n L) (hn : 0 < n) : ∃ b o, a = some ⟨b, o, none⟩ := by
  obtain ⟨b, o, hab, _⟩ := h.1.2 hn
  exact ⟨b, o, hab⟩
/-- At least so many blocks are there. -/
def Ge (w : World) (B : Nat) : Prop := B ≤ w.heap.size
theorem Ge.below {B : Nat} (h : Ge w B) (hb : Below w.heap.size w w') : Ge w' B := Nat.le_trans h hb.size
theorem Ge.drew {B : Nat} (h : Ge w B) : Ge w.drew B := h
theorem Ge.mod {M : Nat → Prop} {B : Nat} (h : Ge w B) (hm : Mod M w w') : Ge w' B := Nat.le_trans h hm.size
/-- One element, laid in a block of its own. -/
theorem Rd.one {g : Nat} {t : TypeId} {x : α} {cs : Array Value} (h : At w g t cs) (hx : cs.toList = enc x) : Rd k enc w (some ⟨g, 0, none⟩) 1 [x] := by
  refine ⟨rfl, fun _ => ⟨g, 0, rfl, h.lt, fun i y hy j hj => ?_⟩⟩
  have hi : i = 0 := by have := (List.getElem?_eq_some_iff.1 hy).1; simp at this; exact this
  subst hi
  simp only [List.getElem?_cons_zero, Option.some.injEq] at hy
  subst hy
  simp only [Nat.zero_mul, Nat.zero_add]
  rw [h.cell, ← hx, Array.getElem?_toList]
theorem Rd.rds (hk : ∀ x, (enc x).length = k) (h : Rd k enc w a n L) : Rds w k a n (L.flatMap enc) := by
  refine ⟨by rw [flatLen hk, h.1], fun hn => ?_⟩
  obtain ⟨b, o, rfl, hlt, hc⟩ := h.2 hn
  refine ⟨_, rfl, hlt, fun j u hu => ?_⟩
  have hj : j < L.length * k := by have := (List.getElem?_eq_some_iff.1 hu).1; rwa [flatLen hk] at this
  have hk0 : 0 < k := Nat.pos_of_ne_zero fun h0 => by subst h0; simp at hj
  have hr : j % k < k := Nat.mod_lt _ hk0
  have hq : j / k * k + j % k = j := by rw [Nat.mul_comm]; exact Nat.div_add_mod j k
  have hadd : (⟨b, o, none⟩ : Addr).add j = ⟨b, o + j, none⟩ := by unfold Addr.add; split <;> simp_all
  have hql : j / k < L.length := Nat.div_lt_of_lt_mul (by rwa [Nat.mul_comm] at hj)
  have hf := flatGet hk L (j / k) (j % k) hr
  rw [hq, hu, List.getElem?_eq_getElem hql, Option.bind_some] at hf
  rw [hadd, show o + j = o + j / k * k + j % k by omega, hc _ _ (List.getElem?_eq_getElem hql) _ hr, hf]
theorem flatOne (h1 : ∀ x, ∀ u ∈ enc x, u.oneCell' = true) (L : List α) : ∀ u ∈ L.flatMap enc, u.oneCell' = true := by
  intro u hu
  obtain ⟨x, _, hx⟩ := List.mem_flatMap.1 hu
  exact h1 x u hx
/-- An append of whatever is shown, onto a row of the call's own: at an operation. -/
theorem wp_sl_app {P : Program} {o : Oper} {a0 : Go.Act} {K : Go.Act → World → Prop} {Q : Exit → Go.Act → World → Prop} {s x : Operand} {t : TypeId} {z : Value} {bytes : Nat} (hk : ∀ x, (enc x).length = k) (h1 : ∀ x, ∀ u ∈ enc x, u.oneCell' = true)
    (ht : P.underlying t = some (.slice e)) (hinfo : (P.info? e).map (fun i => (i.zero, i.size, i.bytes)) = some (some z, k, bytes)) (hzs : z.cells.size = k) (hsz : 0 < k)
    (hown : Sl k enc e w B v L) (hr : Rd k enc w a n L2) (h63 : L.length + n ≤ maxLen) (hbytes : (L.length + n) * bytes ≤ 140737488355328) (hB : B ≤ w.heap.size)
    (ho : o.op = .call { callee := .builtin .append, args := #[s, x], argTypes := #[t, t] }) (hs : a0.eval s = v) (hx : a0.eval x = .slice a n c)
    (h : ∀ v' w', Sl k enc e w' B v' (L ++ L2) → Mod (fun g => v.ownBlock = some g) w w' → (v'.ownBlock = v.ownBlock ∨ v'.ownBlock = some w.heap.size) → K (a0.put o.dst v') w') : o.wp P a0 w K Q := by
  obtain ⟨i0, hi, hz0, hz1, hz2⟩ := info_parts hinfo
  obtain ⟨v', w', hr', h2, h3, h4⟩ := run_app (P := P) w B t o.type e i0 z k bytes ht hi hz0 hz1 hz2 hzs hsz v L.length (L.flatMap enc) hown a n c (L2.flatMap enc) (hr.rds hk) (flatOne h1 L2) h63 hbytes hB
  unfold Oper.wp execOp
  simp only [ho, resolve, invoke, builtin, Sem.run_bind, Sem.run_pure, Result.andThen_ok, List.map_toArray, List.map_cons, List.map_nil, hs, hx, hr']
  refine h v' w' ?_ ((Mod.refl _ _).grown h3 (fun g hg _ => hg)) h4
  show w'.ownsRow B e k v' (L ++ L2).length ((L ++ L2).flatMap enc)
  rw [List.flatMap_append, List.length_append, hr.1]
  exact h2
/-- The same, where nothing draws. -/
theorem wpList_sl_app {P : Program} {ops : Array Oper} {rest : List Oper} {o : Oper} {a0 : Go.Act} {Q : Exit → Go.Act → World → Prop} {s x : Operand} {t : TypeId} {z : Value} {bytes : Nat} (hgd : o.guard = none) (hk : ∀ x, (enc x).length = k) (h1 : ∀ x, ∀ u ∈ enc x, u.oneCell' = true)
    (ht : P.underlying t = some (.slice e)) (hinfo : (P.info? e).map (fun i => (i.zero, i.size, i.bytes)) = some (some z, k, bytes)) (hzs : z.cells.size = k) (hsz : 0 < k)
    (hown : Sl k enc e w B v L) (hr : Rd k enc w a n L2) (h63 : L.length + n ≤ maxLen) (hbytes : (L.length + n) * bytes ≤ 140737488355328) (hB : B ≤ w.heap.size)
    (ho : o.op = .call { callee := .builtin .append, args := #[s, x], argTypes := #[t, t] }) (hs : a0.eval s = v) (hx : a0.eval x = .slice a n c)
    (h : ∀ v' w', Sl k enc e w' B v' (L ++ L2) → Mod (fun g => v.ownBlock = some g) w w' → (v'.ownBlock = v.ownBlock ∨ v'.ownBlock = some w.heap.size) → wpList P ops Q rest (a0.put o.dst v') w') : wpList P ops Q (o :: rest) a0 w :=
  wpList_plain hgd fun _ hK => wp_sl_app hk h1 ht hinfo hzs hsz hown hr h63 hbytes hB ho hs hx fun v' w' h2 h3 h4 => hK _ _ (h v' w' h2 h3 h4)
/-- An element that was laid just ahead is appended. -/
theorem wpList_sl_app1 {P : Program} {ops : Array Oper} {rest : List Oper} {o : Oper} {a0 : Go.Act} {Q : Exit → Go.Act → World → Prop} {s x : Operand} {t : TypeId} {z : Value} {bytes g : Nat} {C : Array Value} {y : α} (hgd : o.guard = none) (hk : ∀ x, (enc x).length = k) (h1 : ∀ x, ∀ u ∈ enc x, u.oneCell' = true)
    (ht : P.underlying t = some (.slice e)) (hinfo : (P.info? e).map (fun i => (i.zero, i.size, i.bytes)) = some (some z, k, bytes)) (hzs : z.cells.size = k) (hsz : 0 < k)
    (hown : Sl k enc e w B v L) (hC : C.toList = enc y) (h63 : L.length + 1 ≤ maxLen) (hbytes : (L.length + 1) * bytes ≤ 140737488355328) (hB : B ≤ w.heap.size)
    (ho : o.op = .call { callee := .builtin .append, args := #[s, x], argTypes := #[t, t] }) (hs : a0.eval s = v) (hx : a0.eval x = .slice (some ⟨g, 0, none⟩) 1 1) (hg : g = w.heap.size)
    (h : ∀ v' w', Sl k enc e w' B v' (L ++ [y]) → Mod (fun g => v.ownBlock = some g) w w' → (v'.ownBlock = v.ownBlock ∨ ∃ q, v'.ownBlock = some q ∧ w.heap.size ≤ q) → wpList P ops Q rest (a0.put o.dst v') w') : wpList P ops Q (o :: rest) a0 (w.alloc (.cells C e)) := by
  subst hg
  refine wpList_sl_app (L2 := [y]) hgd hk h1 ht hinfo hzs hsz (hown.alloc _) (Rd.one (At.new w e C) hC) h63 hbytes (by simp; omega) ho hs hx ?_
  intro v' w' h2 h3 h4
  refine h v' w' h2 (((Mod.refl _ w).alloc _).trans h3) (h4.imp id fun h5 => ⟨_, h5, by simp⟩)
/-- An element set anew: its cells, written one by one. -/
theorem Sl.set (hk : ∀ x, (enc x).length = k) {g : Nat} {i : Nat} {x : α} (hi : i < L.length) (h : Sl k enc e w B (.slice (some ⟨g, 0, none⟩) n c) L) : Sl k enc e (w.setCells g (i * k) (enc x)) B (.slice (some ⟨g, 0, none⟩) n c) (L.set i x) := by
  rcases h.cases with ⟨h1, rfl⟩ | ⟨g', c', cur, h1, h2, h3, h4, h5, h6, h7⟩
  · simp at h1
  · simp only [Value.slice.injEq, Option.some.injEq, Addr.mk.injEq, and_true] at h1
    obtain ⟨rfl, rfl, rfl⟩ := h1
    have hfit : i * k + (enc x).length ≤ cur.size := by
      rw [h6, hk, ← Nat.succ_mul]; exact Nat.mul_le_mul_right _ (by omega)
    refine ⟨by rw [flatLen hk, List.length_set], .inr ⟨g, c, splice cur (i * k) (enc x), by rw [List.length_set], h2, At.setCells (enc x) (i * k) w cur h3, by rw [List.length_set]; exact h4, h5, by rw [splice_size]; exact h6, ?_⟩⟩
    apply List.ext_getElem?
    intro t
    rw [List.length_set, List.getElem?_take]
    by_cases ht : t < L.length * k
    · have hk0 : 0 < k := Nat.pos_of_ne_zero fun h0 => by subst h0; simp at ht
      have hr : t % k < k := Nat.mod_lt _ hk0
      have hq : t / k * k + t % k = t := by rw [Nat.mul_comm]; exact Nat.div_add_mod t k
      have hql : t / k < L.length := Nat.div_lt_of_lt_mul (by rwa [Nat.mul_comm] at ht)
      have hf := flatGet hk L (t / k) (t % k) hr
      have hf2 := flatGet hk (L.set i x) (t / k) (t % k) hr
      rw [hq, ← h7, List.getElem?_take, if_pos ht, Array.getElem?_toList] at hf
      rw [hq] at hf2
      rw [if_pos ht, Array.getElem?_toList, hf2, splice_get _ _ _ _ hfit, List.getElem?_set, hk]
      by_cases hit : i = t / k
      · have e1 : i * k = t / k * k := by rw [hit]
        rw [if_pos hit, if_pos (by omega), if_pos (by rw [hit]; omega), Option.bind_some]
        congr 1
        omega
      · rw [if_neg hit, if_neg ?_, hf]
        intro hx
        have h8 : t / k < i + 1 := Nat.div_lt_of_lt_mul (by rw [Nat.mul_comm, Nat.succ_mul]; omega)
        have h9 : i ≤ t / k := (Nat.le_div_iff_mul_le hk0).2 hx.1
        omega
    · rw [if_neg ht, List.getElem?_eq_none]
      rw [flatLen hk, List.length_set]; omega
/-- One cell of an element set anew. -/
theorem Sl.setCell (hk : ∀ x, (enc x).length = k) {g i j : Nat} {x x' : α} {u : Value} (hj : j < k) (hx : L[i]? = some x) (hx' : enc x' = (enc x).set j u) (h : Sl k enc e w B (.slice (some ⟨g, 0, none⟩) n c) L) :
    Sl k enc e (w.setCell ⟨g, i * k + j, none⟩ u) B (.slice (some ⟨g, 0, none⟩) n c) (L.set i x') := by
  have hi : i < L.length := (List.getElem?_eq_some_iff.1 hx).1
  rcases h.cases with ⟨h1, rfl⟩ | ⟨g', c', cur, h1, h2, h3, h4, h5, h6, h7⟩
  · simp at h1
  · simp only [Value.slice.injEq, Option.some.injEq, Addr.mk.injEq, and_true] at h1
    obtain ⟨rfl, rfl, rfl⟩ := h1
    refine ⟨by rw [flatLen hk, List.length_set], .inr ⟨g, c, cur.setIfInBounds (i * k + j) u, by rw [List.length_set], h2, h3.set _ _, by rw [List.length_set]; exact h4, h5, by rw [Array.size_setIfInBounds]; exact h6, ?_⟩⟩
    apply List.ext_getElem?
    intro t
    rw [List.length_set, List.getElem?_take]
    by_cases ht : t < L.length * k
    · have hk0 : 0 < k := by omega
      have hr : t % k < k := Nat.mod_lt _ hk0
      have hq : t / k * k + t % k = t := by rw [Nat.mul_comm]; exact Nat.div_add_mod t k
      have hql : t / k < L.length := Nat.div_lt_of_lt_mul (by rwa [Nat.mul_comm] at ht)
      have hf := flatGet hk L (t / k) (t % k) hr
      have hf2 := flatGet hk (L.set i x') (t / k) (t % k) hr
      rw [hq, ← h7, List.getElem?_take, if_pos ht, Array.getElem?_toList] at hf
      rw [hq] at hf2
      have hsz : t < cur.size := by rw [h6]; exact Nat.lt_of_lt_of_le ht (Nat.mul_le_mul_right _ h4)
      rw [if_pos ht, Array.getElem?_toList, hf2, Array.getElem?_setIfInBounds, List.getElem?_set]
      by_cases hit : i = t / k
      · subst hit
        rw [if_pos rfl, if_pos hql, Option.bind_some, hx', List.getElem?_set]
        by_cases hjt : j = t % k
        · subst hjt
          rw [if_pos (by omega), if_pos (by omega), if_pos rfl, if_pos (by rw [hk]; exact hr)]
        · rw [if_neg (by omega), if_neg hjt, hf, hx]; rfl
      · rw [if_neg hit, if_neg ?_, hf]
        intro he
        rw [← he] at hit
        apply hit
        rw [Nat.mul_comm, Nat.mul_add_div hk0, Nat.div_eq_of_lt hj]; omega
    · rw [if_neg ht, List.getElem?_eq_none]
      rw [flatLen hk, List.length_set]; omega
end
end Go.Proofs.Ythfgccibiajneaa
