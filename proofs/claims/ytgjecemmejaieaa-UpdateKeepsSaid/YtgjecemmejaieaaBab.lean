/-
  Texts in one, each behind those that it needs: Sl, AggAt, CrcPlain.
-/
import Derived.Test.YtgjecemmejaieaaBaa
import Derived.Laws.BitsAllLaws
/-
  Slices read as lists of anything: k cells an element; rows of the call's own, and slices that only show.
-/
namespace Go.Proofs.Ytgjecemmejaieaa
open Go.RowKit
section
variable {α : Type} {k : Nat} {enc : α → List Value} {e : TypeId} {w w' : World} {B n c : Nat} {v : Value} {a : Option Addr} {L L2 : List α}
theorem flatLen (hk : ∀ x, (enc x).length = k) : ∀ L : List α, (L.flatMap enc).length = L.length * k
  | [] => by simp
  | x :: r => by rw [List.flatMap_cons, List.length_append, hk, flatLen hk r, List.length_cons, Nat.succ_mul]; omega
theorem flatGet (hk : ∀ x, (enc x).length = k) : ∀ (L : List α) (i j : Nat), j < k → (L.flatMap enc)[i * k + j]? = (L[i]?).bind fun x => (enc x)[j]?
  | [], i, j, _ => by simp
  | o :: l, 0, j, hj => by
    rw [List.flatMap_cons, List.getElem?_append_left (by rw [hk]; omega)]
    simp
  | o :: l, i + 1, j, hj => by
    have hl := hk o
    have e : (i + 1) * k + j = k + (i * k + j) := by rw [Nat.succ_mul]; omega
    rw [List.flatMap_cons, List.getElem?_append_right (by rw [hl, e]; omega), hl, e, Nat.add_sub_cancel_left, flatGet hk l i j hj, List.getElem?_cons_succ]
theorem idxLt {i j k n : Nat} (hi : i < n) (hj : j < k) : i * k + j < n * k := by
  have := Nat.mul_le_mul_right k (show i + 1 ≤ n from hi)
  rw [Nat.succ_mul] at this
  omega
/-- A slice that holds L in a row of the call's own, at or above B. -/
def Sl (k : Nat) (enc : α → List Value) (e : TypeId) (w : World) (B : Nat) (v : Value) (L : List α) : Prop := w.ownsRow B e k v L.length (L.flatMap enc)
theorem Sl.nil (k : Nat) (enc : α → List Value) (e : TypeId) (w : World) (B : Nat) : Sl k enc e w B (.slice none 0 0) [] := ⟨by simp, .inl ⟨rfl, rfl⟩⟩
theorem Sl.empty (k : Nat) (enc : α → List Value) (e : TypeId) (w : World) (n : Nat) (hn : n = w.heap.size) (hB : B ≤ n) : Sl k enc e (w.alloc (.cells #[] e)) B (.slice (some ⟨n, 0, none⟩) 0 0) [] := by
  subst hn
  exact ⟨by simp, .inr ⟨w.heap.size, 0, #[], rfl, hB, heap_alloc_new w _, Nat.le_refl _, Nat.zero_le _, by simp, by simp⟩⟩
theorem Sl.of (hk : ∀ x, (enc x).length = k) {g : Nat} {cs : Array Value} (h : At w g e cs) (hB : B ≤ g) (hs : cs.toList = L.flatMap enc) (hm : L.length ≤ maxLen) : Sl k enc e w B (.slice (some ⟨g, 0, none⟩) L.length L.length) L := by
  have hl := flatLen hk L
  refine ⟨hl, .inr ⟨g, _, cs, rfl, hB, h, Nat.le_refl _, hm, ?_, ?_⟩⟩
  · rw [← hl, ← hs]; simp
  · rw [hs, ← hl]; exact List.take_length
theorem Sl.same (h : Sl k enc e w B v L) (hb : ∀ g, v.ownBlock = some g → g < w.heap.size → w'.heap[g]? = w.heap[g]?) : Sl k enc e w' B v L := by
  refine ⟨h.1, ?_⟩
  rcases h.2 with h1 | ⟨g, cap, cur, rfl, h2, h3, h4⟩
  · exact .inl h1
  · exact .inr ⟨g, cap, cur, rfl, h2, (hb g rfl (Array.getElem?_eq_some_iff.1 h3).1).trans h3, h4⟩
theorem Sl.below (h : Sl k enc e w B v L) (hb : Below w.heap.size w w') : Sl k enc e w' B v L := h.same fun g _ hg => hb.block g hg
theorem Sl.drew (h : Sl k enc e w B v L) : Sl k enc e w.drew B v L := h
theorem Sl.alloc (h : Sl k enc e w B v L) (o : Obj) : Sl k enc e (w.alloc o) B v L := h.same fun g _ hg => Below.heap_alloc w o g hg
theorem Sl.base {b' : Nat} (h : Sl k enc e w B v L) (hb : b' ≤ B) : Sl k enc e w b' v L := by
  refine ⟨h.1, ?_⟩
  rcases h.2 with h1 | ⟨g, cap, cur, h1, h2, h3⟩
  · exact .inl h1
  · exact .inr ⟨g, cap, cur, h1, Nat.le_trans hb h2, h3⟩
theorem Sl.ge {g : Nat} (h : Sl k enc e w B v L) (hg : v.ownBlock = some g) : B ≤ g ∧ g < w.heap.size := World.ownsRow.lt h g hg
theorem Sl.mod {M : Nat → Prop} (h : Sl k enc e w B v L) (hm : Mod M w w') (hM : ∀ g, v.ownBlock = some g → ¬ M g) : Sl k enc e w' B v L := h.same fun g hv hg => hm.block g hg (hM g hv)
theorem Sl.modb {M : Nat → Prop} (h : Sl k enc e w B v L) (hm : Mod M w w') (hM : ∀ g, B ≤ g → ¬ M g) : Sl k enc e w' B v L := h.mod hm fun g hv => hM g (h.ge hv).1
theorem Sl.far (h : Sl k enc e w B v L) {p : Addr} (hp : v.ownBlock ≠ some p.block) (u : Value) : Sl k enc e (w.setCell p u) B v L := h.same fun g hv _ => Below.heap_setCell w p u g (fun e => hp (by rw [hv, e]))
/-- nil, or a block. -/
theorem Sl.cases (h : Sl k enc e w B v L) : (v = .slice none 0 0 ∧ L = []) ∨ ∃ g c cur, v = .slice (some ⟨g, 0, none⟩) L.length c ∧ B ≤ g ∧ At w g e cur ∧ L.length ≤ c ∧ c ≤ maxLen ∧ cur.size = c * k ∧ cur.toList.take (L.length * k) = L.flatMap enc := by
  rcases h.2 with ⟨h1, h2⟩ | ⟨g, cap, cur, h1, h2, h3, h4, h5, h6, h7⟩
  · exact .inl ⟨h1, List.eq_nil_of_length_eq_zero h2⟩
  · exact .inr ⟨g, cap, cur, h1, h2, h3, h4, h5, h6, h7⟩
theorem Sl.form (h : Sl k enc e w B v L) : ∃ a c, v = .slice a L.length c := by
  rcases h.cases with ⟨h1, h2⟩ | ⟨g, c, cur, h1, _⟩
  · exact ⟨none, 0, by rw [h1, h2]; rfl⟩
  · exact ⟨_, _, h1⟩
/-- A slice that shows L. -/
def Rd (k : Nat) (enc : α → List Value) (w : World) (a : Option Addr) (n : Nat) (L : List α) : Prop :=
  L.length = n ∧ (0 < n → ∃ b o, a = some ⟨b, o, none⟩ ∧ b < w.heap.size ∧ ∀ i x, L[i]? = some x → ∀ j, j < k → w.cell? ⟨b, o + i * k + j, none⟩ = (enc x)[j]?)
theorem Rd.same (h : Rd k enc w a n L) (hs : w.heap.size ≤ w'.heap.size) (hb : ∀ b o, a = some ⟨b, o, none⟩ → b < w.heap.size → w'.heap[b]? = w.heap[b]?) : Rd k enc w' a n L := by
  refine ⟨h.1, fun hn => ?_⟩
  obtain ⟨b, o, rfl, hlt, hc⟩ := h.2 hn
  refine ⟨b, o, rfl, Nat.lt_of_lt_of_le hlt hs, fun i x hx j hj => ?_⟩
  rw [← hc i x hx j hj]
  exact World.cell?_of_block (a := ⟨b, o + i * k + j, none⟩) (hb b o rfl hlt)
theorem Rd.below (h : Rd k enc w a n L) (hb : Below w.heap.size w w') : Rd k enc w' a n L := h.same hb.size fun b _ _ hlt => hb.block b hlt
theorem Rd.drew (h : Rd k enc w a n L) : Rd k enc w.drew a n L := h
theorem Rd.alloc (h : Rd k enc w a n L) (o : Obj) : Rd k enc (w.alloc o) a n L := h.same (by simp) fun b _ _ hlt => Below.heap_alloc w o b hlt
theorem Rd.mod {M : Nat → Prop} (h : Rd k enc w a n L) (hm : Mod M w w') (hM : ∀ b o, a = some ⟨b, o, none⟩ → b < w.heap.size → ¬ M b) : Rd k enc w' a n L := h.same hm.size fun b o hab hlt => hm.block b hlt (hM b o hab hlt)
theorem Rd.head (h : Rd k enc w a n L) (t : Nat) (ht : t ≤ n) : Rd k enc w a t (L.take t) := by
  refine ⟨by rw [List.length_take, h.1]; omega, fun hn => ?_⟩
  obtain ⟨b, o, hab, hlt, hc⟩ := h.2 (by omega)
  refine ⟨b, o, hab, hlt, fun i x hx j hj => hc i x ?_ j hj⟩
  rw [List.getElem?_take] at hx
  split at hx
  · exact hx
  · cases hx
theorem Rd.tail {b o : Nat} (h : Rd k enc w (some ⟨b, o, none⟩) n L) (t : Nat) : Rd k enc w (some ⟨b, o + t * k, none⟩) (n - t) (L.drop t) := by
  refine ⟨by rw [List.length_drop, h.1], fun hn => ?_⟩
  obtain ⟨b', o', hab, hlt, hc⟩ := h.2 (by omega)
  simp only [Option.some.injEq, Addr.mk.injEq, and_true] at hab
  obtain ⟨rfl, rfl⟩ := hab
  refine ⟨b, _, rfl, hlt, fun i x hx j hj => ?_⟩
  rw [List.getElem?_drop] at hx
  rw [← hc (t + i) x hx j hj, Nat.add_mul, Nat.add_assoc o]
/-- .. in the walk's own spelling of 's[t:]'. -/
theorem Rd.tail_if {b o : Nat} (h : Rd k enc w (some ⟨b, o, none⟩) n L) (t : Nat) (hc : n ≤ c) : Rd k enc w (if c = t then some ⟨b, o, none⟩ else some ⟨b, o + t * k, none⟩) (n - t) (L.drop t) := by
  split
  · refine ⟨by rw [List.length_drop, h.1], fun hn => by omega⟩
  · exact h.tail t
theorem Rd.none_tail (h : Rd k enc w none n L) (t : Nat) (a' : Option Addr) : Rd k enc w a' (n - t) (L.drop t) := by
  refine ⟨by rw [List.length_drop, h.1], fun hn => ?_⟩
  obtain ⟨b', o', hab, _⟩ := h.2 (by omega)
  cases hab
/-- An empty one, wherever it points to. -/
theorem Rd.zero (k : Nat) (enc : α → List Value) (w : World) (a : Option Addr) : Rd k enc w a 0 [] := ⟨rfl, fun h => absurd h (by omega)⟩
theorem Sl.rd {m : Nat} (hk : ∀ x, (enc x).length = k) (h : Sl k enc e w B (.slice a m c) L) : Rd k enc w a m L ∧ m = L.length ∧ L.length ≤ c := by
  rcases h.cases with ⟨h1, rfl⟩ | ⟨g, c', cur, h1, h2, h3, h4, h5, h6, h7⟩
  · simp only [Value.slice.injEq] at h1
    obtain ⟨rfl, rfl, rfl⟩ := h1
    exact ⟨Rd.zero _ _ _ _, rfl, Nat.le_refl _⟩
  · simp only [Value.slice.injEq] at h1
    obtain ⟨rfl, rfl, rfl⟩ := h1
    refine ⟨⟨rfl, fun hn => ⟨g, 0, rfl, h3.lt, fun i x hx j hj => ?_⟩⟩, rfl, h4⟩
    have hi : i < L.length := (List.getElem?_eq_some_iff.1 hx).1
    have hf := flatGet hk L i j hj
    rw [← h7, hx, List.getElem?_take, if_pos (idxLt hi hj), Array.getElem?_toList] at hf
    rw [Nat.zero_add, h3.cell, hf]; rfl
/-- A slice that came in: it lies below B. -/
def Ri (B : Nat) (k : Nat) (enc : α → List Value) (w : World) (a : Option Addr) (n : Nat) (L : List α) : Prop := Rd k enc w a n L ∧ ∀ b o, 0 < n → a = some ⟨b, o, none⟩ → b < B
theorem Ri.below {B : Nat} (h : Ri B k enc w a n L) (hb : Below w.heap.size w w') : Ri B k enc w' a n L := ⟨h.1.below hb, h.2⟩
theorem Ri.drew {B : Nat} (h : Ri B k enc w a n L) : Ri B k enc w.drew a n L := h
theorem Ri.alloc {B : Nat} (h : Ri B k enc w a n L) (o : Obj) : Ri B k enc (w.alloc o) a n L := ⟨h.1.alloc o, h.2⟩
theorem Rd.riB {B : Nat} (h : Rd k enc w a n L) (hB : ∀ b o, a = some ⟨b, o, none⟩ → b < B) : Ri B k enc w a n L := ⟨h, fun b o _ hab => hB b o hab⟩
theorem Ri.none0 (B : Nat) (k : Nat) (enc : α → List Value) (w : World) (a : Option Addr) : Ri B k enc w a 0 [] := ⟨Rd.zero k enc w a, fun _ _ h => absurd h (by omega)⟩
theorem Ri.mod {M : Nat → Prop} {B : Nat} (h : Ri B k enc w a n L) (hm : Mod M w w') (hM : ∀ i, M i → B ≤ i) : Ri B k enc w' a n L := by
  refine ⟨?_, h.2⟩
  rcases Nat.eq_zero_or_pos n with h0 | h0
  · subst h0
    exact ⟨h.1.1, fun h => absurd h (by omega)⟩
  · exact h.1.mod hm (fun b o hab _ hb => by have := h.2 b o h0 hab; have := hM b hb; omega)
theorem Rd.ri (h : Rd k enc w a n L) : Ri w.heap.size k enc w a n L := by
  refine ⟨h, fun b o h0 hab => ?_⟩
  obtain ⟨b', o', hab', hlt, _⟩ := h.2 h0
  rw [hab] at hab'
  simp only [Option.some.injEq, Addr.mk.injEq, and_true] at hab'
  omega
theorem Ri.get {B b o : Nat} (h : Ri B k enc w (some ⟨b, o, none⟩) n L) (t : Nat) (x : α) (hx : L[t]? = some x) : b < B ∧ b < w.heap.size ∧ ∀ j, j < k → w.cell? ⟨b, o + t * k + j, none⟩ = (enc x)[j]? := by
  have ht : t < n := by have := (List.getElem?_eq_some_iff.1 hx).1; rw [h.1.1] at this; exact this
  obtain ⟨b', o', hab, hlt, hc⟩ := h.1.2 (by omega)
  simp only [Option.some.injEq, Addr.mk.injEq, and_true] at hab
  obtain ⟨rfl, rfl⟩ := hab
  exact ⟨h.2 b o (by omega) rfl, hlt, fun j hj => hc t x hx j hj⟩
theorem Ri.addr {B : Nat} (h : Ri B k enc w a n L) (hn : 0 < n) : ∃ b o, a = some ⟨b, o, none⟩ := by
  obtain ⟨b, o, hab, _⟩ := h.1.2 hn
  exact ⟨b, o, hab⟩
/-- At least so many blocks are there. -/
def Ge (w : World) (B : Nat) : Prop := B ≤ w.heap.size
theorem Ge.below {B : Nat} (h : Ge w B) (hb : Below w.heap.size w w') : Ge w' B := Nat.le_trans h hb.size
theorem Ge.drew {B : Nat} (h : Ge w B) : Ge w.drew B := h
theorem Ge.mod {M : Nat → Prop} {B : Nat} (h : Ge w B) (hm : Mod M w w') : Ge w' B := Nat.le_trans h hm.size
/-- One element, laid in a block of its own. -/
theorem Rd.one {g : Nat} {t : TypeId} {x : α} {cs : Array Value} (h : At w g t cs) (hx : cs.toList = enc x) : Rd k enc w (some ⟨g, 0, none⟩) 1 [x] := by
  refine ⟨rfl, fun _ => ⟨g, 0, rfl, h.lt, fun i y hy j hj => ?_⟩⟩
  have hi : i = 0 := by have := (List.getElem?_eq_some_iff.1 hy).1; simp at this; exact this
  subst hi
  simp only [List.getElem?_cons_zero, Option.some.injEq] at hy
  subst hy
  simp only [Nat.zero_mul, Nat.zero_add]
  rw [h.cell, ← hx, Array.getElem?_toList]
theorem Rd.rds (hk : ∀ x, (enc x).length = k) (h : Rd k enc w a n L) : Rds w k a n (L.flatMap enc) := by
  refine ⟨by rw [flatLen hk, h.1], fun hn => ?_⟩
  obtain ⟨b, o, rfl, hlt, hc⟩ := h.2 hn
  refine ⟨_, rfl, hlt, fun j u hu => ?_⟩
  have hj : j < L.length * k := by have := (List.getElem?_eq_some_iff.1 hu).1; rwa [flatLen hk] at this
  have hk0 : 0 < k := Nat.pos_of_ne_zero fun h0 => by subst h0; simp at hj
  have hr : j % k < k := Nat.mod_lt _ hk0
  have hq : j / k * k + j % k = j := by rw [Nat.mul_comm]; exact Nat.div_add_mod j k
  have hadd : (⟨b, o, none⟩ : Addr).add j = ⟨b, o + j, none⟩ := by unfold Addr.add; split <;> simp_all
  have hql : j / k < L.length := Nat.div_lt_of_lt_mul (by rwa [Nat.mul_comm] at hj)
  have hf := flatGet hk L (j / k) (j % k) hr
  rw [hq, hu, List.getElem?_eq_getElem hql, Option.bind_some] at hf
  rw [hadd, show o + j = o + j / k * k + j % k by omega, hc _ _ (List.getElem?_eq_getElem hql) _ hr, hf]
theorem flatOne (h1 : ∀ x, ∀ u ∈ enc x, u.oneCell' = true) (L : List α) : ∀ u ∈ L.flatMap enc, u.oneCell' = true := by
  intro u hu
  obtain ⟨x, _, hx⟩ := List.mem_flatMap.1 hu
  exact h1 x u hx
/-- An append of whatever is shown, onto a row of the call's own: at an operation. -/
theorem wp_sl_app {P : Program} {o : Oper} {a0 : Go.Act} {K : Go.Act → World → Prop} {Q : Exit → Go.Act → World → Prop} {s x : Operand} {t : TypeId} {z : Value} {bytes : Nat} (hk : ∀ x, (enc x).length = k) (h1 : ∀ x, ∀ u ∈ enc x, u.oneCell' = true)
    (ht : P.underlying t = some (.slice e)) (hinfo : (P.info? e).map (fun i => (i.zero, i.size, i.bytes)) = some (some z, k, bytes)) (hzs : z.cells.size = k) (hsz : 0 < k)
    (hown : Sl k enc e w B v L) (hr : Rd k enc w a n L2) (h63 : L.length + n ≤ maxLen) (hbytes : (L.length + n) * bytes ≤ 140737488355328) (hB : B ≤ w.heap.size)
    (ho : o.op = .call { callee := .builtin .append, args := #[s, x], argTypes := #[t, t] }) (hs : a0.eval s = v) (hx : a0.eval x = .slice a n c)
    (h : ∀ v' w', Sl k enc e w' B v' (L ++ L2) → Mod (fun g => v.ownBlock = some g) w w' → (v'.ownBlock = v.ownBlock ∨ v'.ownBlock = some w.heap.size) → K (a0.put o.dst v') w') : o.wp P a0 w K Q := by
  obtain ⟨i0, hi, hz0, hz1, hz2⟩ := info_parts hinfo
  obtain ⟨v', w', hr', h2, h3, h4⟩ := run_app (P := P) w B t o.type e i0 z k bytes ht hi hz0 hz1 hz2 hzs hsz v L.length (L.flatMap enc) hown a n c (L2.flatMap enc) (hr.rds hk) (flatOne h1 L2) h63 hbytes hB
  unfold Oper.wp execOp
  simp only [ho, resolve, invoke, builtin, Sem.run_bind, Sem.run_pure, Result.andThen_ok, List.map_toArray, List.map_cons, List.map_nil, hs, hx, hr']
  refine h v' w' ?_ ((Mod.refl _ _).grown h3 (fun g hg _ => hg)) h4
  show w'.ownsRow B e k v' (L ++ L2).length ((L ++ L2).flatMap enc)
  rw [List.flatMap_append, List.length_append, hr.1]
  exact h2
/-- The same, where nothing draws. -/
theorem wpList_sl_app {P : Program} {ops : Array Oper} {rest : List Oper} {o : Oper} {a0 : Go.Act} {Q : Exit → Go.Act → World → Prop} {s x : Operand} {t : TypeId} {z : Value} {bytes : Nat} (hgd : o.guard = none) (hk : ∀ x, (enc x).length = k) (h1 : ∀ x, ∀ u ∈ enc x, u.oneCell' = true)
    (ht : P.underlying t = some (.slice e)) (hinfo : (P.info? e).map (fun i => (i.zero, i.size, i.bytes)) = some (some z, k, bytes)) (hzs : z.cells.size = k) (hsz : 0 < k)
    (hown : Sl k enc e w B v L) (hr : Rd k enc w a n L2) (h63 : L.length + n ≤ maxLen) (hbytes : (L.length + n) * bytes ≤ 140737488355328) (hB : B ≤ w.heap.size)
    (ho : o.op = .call { callee := .builtin .append, args := #[s, x], argTypes := #[t, t] }) (hs : a0.eval s = v) (hx : a0.eval x = .slice a n c)
    (h : ∀ v' w', Sl k enc e w' B v' (L ++ L2) → Mod (fun g => v.ownBlock = some g) w w' → (v'.ownBlock = v.ownBlock ∨ v'.ownBlock = some w.heap.size) → wpList P ops Q rest (a0.put o.dst v') w') : wpList P ops Q (o :: rest) a0 w :=
  wpList_plain hgd fun _ hK => wp_sl_app hk h1 ht hinfo hzs hsz hown hr h63 hbytes hB ho hs hx fun v' w' h2 h3 h4 => hK _ _ (h v' w' h2 h3 h4)
/-- An element that was laid just ahead is appended. -/
theorem wpList_sl_app1 {P : Program} {ops : Array Oper} {rest : List Oper} {o : Oper} {a0 : Go.Act} {Q : Exit → Go.Act → World → Prop} {s x : Operand} {t : TypeId} {z : Value} {bytes g : Nat} {C : Array Value} {y : α} (hgd : o.guard = none) (hk : ∀ x, (enc x).length = k) (h1 : ∀ x, ∀ u ∈ enc x, u.oneCell' = true)
    (ht : P.underlying t = some (.slice e)) (hinfo : (P.info? e).map (fun i => (i.zero, i.size, i.bytes)) = some (some z, k, bytes)) (hzs : z.cells.size = k) (hsz : 0 < k)
    (hown : Sl k enc e w B v L) (hC : C.toList = enc y) (h63 : L.length + 1 ≤ maxLen) (hbytes : (L.length + 1) * bytes ≤ 140737488355328) (hB : B ≤ w.heap.size)
    (ho : o.op = .call { callee := .builtin .append, args := #[s, x], argTypes := #[t, t] }) (hs : a0.eval s = v) (hx : a0.eval x = .slice (some ⟨g, 0, none⟩) 1 1) (hg : g = w.heap.size)
    (h : ∀ v' w', Sl k enc e w' B v' (L ++ [y]) → Mod (fun g => v.ownBlock = some g) w w' → (v'.ownBlock = v.ownBlock ∨ ∃ q, v'.ownBlock = some q ∧ w.heap.size ≤ q) → wpList P ops Q rest (a0.put o.dst v') w') : wpList P ops Q (o :: rest) a0 (w.alloc (.cells C e)) := by
  subst hg
  refine wpList_sl_app (L2 := [y]) hgd hk h1 ht hinfo hzs hsz (hown.alloc _) (Rd.one (At.new w e C) hC) h63 hbytes (by simp; omega) ho hs hx ?_
  intro v' w' h2 h3 h4
  refine h v' w' h2 (((Mod.refl _ w).alloc _).trans h3) (h4.imp id fun h5 => ⟨_, h5, by simp⟩)
/-- An element set anew: its cells, written one by one. -/
theorem Sl.set (hk : ∀ x, (enc x).length = k) {g : Nat} {i : Nat} {x : α} (hi : i < L.length) (h : Sl k enc e w B (.slice (some ⟨g, 0, none⟩) n c) L) : Sl k enc e (w.setCells g (i * k) (enc x)) B (.slice (some ⟨g, 0, none⟩) n c) (L.set i x) := by
  rcases h.cases with ⟨h1, rfl⟩ | ⟨g', c', cur, h1, h2, h3, h4, h5, h6, h7⟩
  · simp at h1
  · simp only [Value.slice.injEq, Option.some.injEq, Addr.mk.injEq, and_true] at h1
    obtain ⟨rfl, rfl, rfl⟩ := h1
    have hfit : i * k + (enc x).length ≤ cur.size := by
      rw [h6, hk, ← Nat.succ_mul]; exact Nat.mul_le_mul_right _ (by omega)
    refine ⟨by rw [flatLen hk, List.length_set], .inr ⟨g, c, splice cur (i * k) (enc x), by rw [List.length_set], h2, At.setCells (enc x) (i * k) w cur h3, by rw [List.length_set]; exact h4, h5, by rw [splice_size]; exact h6, ?_⟩⟩
    apply List.ext_getElem?
    intro t
    rw [List.length_set, List.getElem?_take]
    by_cases ht : t < L.length * k
    · have hk0 : 0 < k := Nat.pos_of_ne_zero fun h0 => by subst h0; simp at ht
      have hr : t % k < k := Nat.mod_lt _ hk0
      have hq : t / k * k + t % k = t := by rw [Nat.mul_comm]; exact Nat.div_add_mod t k
      have hql : t / k < L.length := Nat.div_lt_of_lt_mul (by rwa [Nat.mul_comm] at ht)
      have hf := flatGet hk L (t / k) (t % k) hr
      have hf2 := flatGet hk (L.set i x) (t / k) (t % k) hr
      rw [hq, ← h7, List.getElem?_take, if_pos ht, Array.getElem?_toList] at hf
      rw [hq] at hf2
      rw [if_pos ht, Array.getElem?_toList, hf2, splice_get _ _ _ _ hfit, List.getElem?_set, hk]
      by_cases hit : i = t / k
      · have e1 : i * k = t / k * k := by rw [hit]
        rw [if_pos hit, if_pos (by omega), if_pos (by rw [hit]; omega), Option.bind_some]
        congr 1
        omega
      · rw [if_neg hit, if_neg ?_, hf]
        intro hx
        have h8 : t / k < i + 1 := Nat.div_lt_of_lt_mul (by rw [Nat.mul_comm, Nat.succ_mul]; omega)
        have h9 : i ≤ t / k := (Nat.le_div_iff_mul_le hk0).2 hx.1
        omega
    · rw [if_neg ht, List.getElem?_eq_none]
      rw [flatLen hk, List.length_set]; omega
/-- One cell of an element set anew. -/
theorem Sl.setCell (hk : ∀ x, (enc x).length = k) {g i j : Nat} {x x' : α} {u : Value} (hj : j < k) (hx : L[i]? = some x) (hx' : enc x' = (enc x).set j u) (h : Sl k enc e w B (.slice (some ⟨g, 0, none⟩) n c) L) :
    Sl k enc e (w.setCell ⟨g, i * k + j, none⟩ u) B (.slice (some ⟨g, 0, none⟩) n c) (L.set i x') := by
  have hi : i < L.length := (List.getElem?_eq_some_iff.1 hx).1
  rcases h.cases with ⟨h1, rfl⟩ | ⟨g', c', cur, h1, h2, h3, h4, h5, h6, h7⟩
  · simp at h1
  · simp only [Value.slice.injEq, Option.some.injEq, Addr.mk.injEq, and_true] at h1
    obtain ⟨rfl, rfl, rfl⟩ := h1
    refine ⟨by rw [flatLen hk, List.length_set], .inr ⟨g, c, cur.setIfInBounds (i * k + j) u, by rw [List.length_set], h2, h3.set _ _, by rw [List.length_set]; exact h4, h5, by rw [Array.size_setIfInBounds]; exact h6, ?_⟩⟩
    apply List.ext_getElem?
    intro t
    rw [List.length_set, List.getElem?_take]
    by_cases ht : t < L.length * k
    · have hk0 : 0 < k := by omega
      have hr : t % k < k := Nat.mod_lt _ hk0
      have hq : t / k * k + t % k = t := by rw [Nat.mul_comm]; exact Nat.div_add_mod t k
      have hql : t / k < L.length := Nat.div_lt_of_lt_mul (by rwa [Nat.mul_comm] at ht)
      have hf := flatGet hk L (t / k) (t % k) hr
      have hf2 := flatGet hk (L.set i x') (t / k) (t % k) hr
      rw [hq, ← h7, List.getElem?_take, if_pos ht, Array.getElem?_toList] at hf
      rw [hq] at hf2
      have hsz : t < cur.size := by rw [h6]; exact Nat.lt_of_lt_of_le ht (Nat.mul_le_mul_right _ h4)
      rw [if_pos ht, Array.getElem?_toList, hf2, Array.getElem?_setIfInBounds, List.getElem?_set]
      by_cases hit : i = t / k
      · subst hit
        rw [if_pos rfl, if_pos hql, Option.bind_some, hx', List.getElem?_set]
        by_cases hjt : j = t % k
        · subst hjt
          rw [if_pos (by omega), if_pos (by omega), if_pos rfl, if_pos (by rw [hk]; exact hr)]
        · rw [if_neg (by omega), if_neg hjt, hf, hx]; rfl
      · rw [if_neg hit, if_neg ?_, hf]
        intro he
        rw [← he] at hit
        apply hit
        rw [Nat.mul_comm, Nat.mul_add_div hk0, Nat.div_eq_of_lt hj]; omega
    · rw [if_neg ht, List.getElem?_eq_none]
      rw [flatLen hk, List.length_set]; omega
end
end Go.Proofs.Ytgjecemmejaieaa

/-
  A load of a whole array or struct, wherever it lies and whatever else its block holds: one step, by its cells alone.
-/
namespace Go.Proofs.Ytgjecemmejaieaa
open Go.RowKit
/-- n cells of a block, from a place on. -/
def aggAt (w : World) (b o n : Nat) : Array Value := ((List.range n).map fun j => (w.cell? ⟨b, o + j, none⟩).getD undef).toArray
def aggOk (w : World) (b o n : Nat) : Bool := (List.range n).all fun j => (w.cell? ⟨b, o + j, none⟩).isSome
section
variable {P : Program} {w w' : World} {b o n : Nat}
theorem agg_of {vs : List Value} (hn : vs.length = n) (h : ∀ j, j < n → w.cell? ⟨b, o + j, none⟩ = vs[j]?) : aggAt w b o n = vs.toArray ∧ aggOk w b o n = true := by
  subst hn
  constructor
  · unfold aggAt
    congr 1
    apply List.ext_getElem?
    intro j
    rw [List.getElem?_map]
    by_cases hj : j < vs.length
    · rw [List.getElem?_range hj, Option.map_some, h j hj, List.getElem?_eq_getElem hj]; rfl
    · rw [List.getElem?_eq_none (by rw [List.length_range]; omega), List.getElem?_eq_none (by omega)]; rfl
  · unfold aggOk
    rw [List.all_eq_true]
    intro j hj
    rw [h j (List.mem_range.1 hj), List.getElem?_eq_getElem (List.mem_range.1 hj)]; rfl
theorem At.agg {g : Nat} {t : TypeId} {cs : Array Value} (h : At w g t cs) (o n : Nat) (hs : o + n ≤ cs.size) : aggAt w g o n = cs.extract o (o + n) ∧ aggOk w g o n = true := by
  have := agg_of (w := w) (b := g) (o := o) (n := n) (vs := (cs.extract o (o + n)).toList) (by simp; omega) (fun j hj => by
    rw [h.cell, Array.getElem?_toList, Array.getElem?_extract, if_pos (by omega)])
  rwa [Array.toArray_toList] at this
theorem Rd.agg {α : Type} {k : Nat} {enc : α → List Value} {a : Option Addr} {m : Nat} {L : List α} (hk : ∀ x, (enc x).length = k) (h : Rd k enc w a m L) {i : Nat} {x : α} (hx : L[i]? = some x) :
    ∃ b o, a = some ⟨b, o, none⟩ ∧ b < w.heap.size ∧ aggAt w b (o + i * k) k = (enc x).toArray ∧ aggOk w b (o + i * k) k = true := by
  have hi : i < m := by have := (List.getElem?_eq_some_iff.1 hx).1; rw [h.1] at this; exact this
  obtain ⟨b, o, hab, hlt, hc⟩ := h.2 (by omega)
  exact ⟨b, o, hab, hlt, agg_of (hk x) fun j hj => hc i x hx j hj⟩
theorem Mod.agg {M : Nat → Prop} {a : World} (h : Mod M a w) : (∀ k o n, k < a.heap.size → ¬ M k → aggAt w k o n = aggAt a k o n) ∧ (∀ k o n, k < a.heap.size → ¬ M k → aggOk w k o n = aggOk a k o n) := by
  have hc : ∀ k o, k < a.heap.size → ¬ M k → w.cell? ⟨k, o, none⟩ = a.cell? ⟨k, o, none⟩ := fun k o h1 h2 => h.cell (p := ⟨k, o, none⟩) h1 h2
  constructor
  · intro k o n h1 h2
    unfold aggAt
    congr 1
    exact List.map_congr_left fun j _ => by rw [hc k _ h1 h2]
  · intro k o n h1 h2
    unfold aggOk
    rw [Bool.eq_iff_iff, List.all_eq_true, List.all_eq_true]
    exact forall_congr' fun j => by rw [hc k _ h1 h2]
theorem loadAt_agg (ty : TypeId) (d : TypeDesc) (n : Nat) (hu : P.underlying ty = some d) (hd : (match d with | .struct _ | .array _ _ => true | _ => false) = true)
    (hi : (P.info? ty).map (·.size) = some n) (w : World) (b o : Nat) (ho : aggOk w b o n = true) : (Instr.loadAt ty (.pointer (some ⟨b, o, none⟩))).run P w = .ok (.agg (aggAt w b o n)) w := by
  have hagg : (isAgg ty).run P w = .ok true w := by
    unfold isAgg
    rw [Sem.run_bind, run_underlying hu]
    simp only [Result.andThen_ok]
    cases d <;> simp_all
  have hsz : (sizeOf ty).run P w = .ok n w := by
    cases hq : P.info? ty with
    | none => simp [hq] at hi
    | some i => simp [hq] at hi; simp [sizeOf, typeInfo, hq, hi]
  have hl : (aggAt w b o n).toList.length = n := by simp [aggAt]
  have hc := run_loadCells_list (P := P) w ⟨b, o, none⟩ (aggAt w b o n).toList (fun j v hv => by
    have hadd : (⟨b, o, none⟩ : Addr).add j = ⟨b, o + j, none⟩ := by unfold Addr.add; split <;> simp_all
    have hj : j < n := by have := (List.getElem?_eq_some_iff.1 hv).1; omega
    rw [hadd]
    unfold aggOk at ho
    rw [List.all_eq_true] at ho
    obtain ⟨u, hu⟩ := Option.isSome_iff_exists.1 (ho j (List.mem_range.2 hj))
    rw [hu]
    simp only [aggAt, List.getElem?_map, List.getElem?_range hj, Option.map_some, hu, Option.getD_some] at hv
    exact hv)
  rw [hl] at hc
  simp only [Instr.loadAt, Instr.sureAddr, Sem.run_bind, Sem.run_pure, Result.andThen_ok, loadVar, hagg, hsz, hc, if_true]
theorem exec_load_agg (ty : TypeId) (d : TypeDesc) (n : Nat) (hu : P.underlying ty = some d) (hd : (match d with | .struct _ | .array _ _ => true | _ => false) = true)
    (hi : (P.info? ty).map (·.size) = some n) (x : Operand) (dst : Option Tmp) (t : TypeId) (pos : String) (after : Array Edge) (g : Option (Nat × Bool)) (f : Operand → Value) (w : World)
    (hx : plainPtr (f x) = true) (ho : aggOk w (blk (f x)) (offOf (f x)) n = true) :
    (execOp f ⟨dst, .load ty x, t, pos, after, g⟩).run P w = .ok (.value (.agg (aggAt w (blk (f x)) (offOf (f x)) n))) w := by
  have e := of_plainPtr hx
  have h := loadAt_agg (P := P) ty d n hu hd hi w _ _ ho
  rw [← e] at h
  unfold execOp
  simp only [Sem.run_bind, h, Result.andThen_ok, Sem.run_pure]
end
end Go.Proofs.Ytgjecemmejaieaa

/-
  Plain laws of remainders (no program in sight): one step of the check, eight steps, the table, the fold over bytes; all linear over exclusive or; one-to-one where the polynomial's top bit is set.
-/
namespace Go.Proofs.Ytgjecemmejaieaa

/-- One step: the low bit leaves; if it was set the polynomial comes in. -/
def stp (p n : Nat) : Nat := if n % 2 = 1 then n / 2 ^^^ p else n / 2
/-- So many steps. -/
def stps (p : Nat) : Nat → Nat → Nat
  | 0, n => n
  | k + 1, n => stps p k (stp p n)
/-- A byte's. -/
def byt (p n c : Nat) : Nat := n / 256 ^^^ stps p 8 ((n % 256) ^^^ c)
def run (p n : Nat) (l : List Nat) : Nat := l.foldl (byt p) n
def inv (n : Nat) : Nat := n ^^^ 4294967295
def crc (p s : Nat) (l : List Nat) : Nat := inv (run p (inv s) l)

theorem xor_mod2 (a b : Nat) : (a ^^^ b) % 2 = (a % 2 + b % 2) % 2 := by
  have h : (a ^^^ b) % 2 = (a % 2) ^^^ (b % 2) := Nat.xor_mod_two_pow (n := 1)
  rw [h]
  rcases Nat.mod_two_eq_zero_or_one a with ha | ha <;> rcases Nat.mod_two_eq_zero_or_one b with hb | hb <;> rw [ha, hb] <;> rfl
theorem xor_div2 (a b : Nat) : (a ^^^ b) / 2 = a / 2 ^^^ b / 2 := by
  have := Nat.shiftRight_xor_distrib (a := a) (b := b) (i := 1)
  simpa [Nat.shiftRight_eq_div_pow] using this
theorem xor4 (a b c d : Nat) : (a ^^^ b) ^^^ (c ^^^ d) = (a ^^^ c) ^^^ (b ^^^ d) := by
  rw [Nat.xor_assoc, Nat.xor_assoc, ← Nat.xor_assoc b, Nat.xor_comm b c, Nat.xor_assoc c]
theorem stp_xor (p a b : Nat) : stp p (a ^^^ b) = stp p a ^^^ stp p b := by
  unfold stp
  rw [xor_mod2, xor_div2]
  rcases Nat.mod_two_eq_zero_or_one a with ha | ha <;> rcases Nat.mod_two_eq_zero_or_one b with hb | hb <;> simp [ha, hb]
  · rw [Nat.xor_assoc]
  · rw [Nat.xor_assoc, Nat.xor_assoc, Nat.xor_comm p]
  · rw [xor4, Nat.xor_self, Nat.xor_zero]
theorem stps_xor (p : Nat) : ∀ (k a b : Nat), stps p k (a ^^^ b) = stps p k a ^^^ stps p k b
  | 0, _, _ => rfl
  | k + 1, a, b => by rw [stps, stp_xor, stps_xor p k]; rfl
theorem stp_zero (p : Nat) : stp p 0 = 0 := rfl
theorem stps_zero (p : Nat) : ∀ k, stps p k 0 = 0
  | 0 => rfl
  | k + 1 => by rw [stps, stp_zero, stps_zero p k]
theorem stp_lt {p n : Nat} (hp : p < 4294967296) (hn : n < 4294967296) : stp p n < 4294967296 := by
  unfold stp
  split
  · exact Nat.xor_lt_two_pow (n := 32) (by omega) (by omega)
  · omega
theorem stps_lt {p : Nat} (hp : p < 4294967296) : ∀ (k : Nat) {n : Nat}, n < 4294967296 → stps p k n < 4294967296
  | 0, _, h => h
  | k + 1, _, h => stps_lt hp k (stp_lt hp h)
/-- Low bits that are nought leave without a trace. -/
theorem stps_shift (p : Nat) : ∀ (k m : Nat), stps p k (m * 2 ^ k) = m
  | 0, m => by simp [stps]
  | k + 1, m => by
    rw [stps]
    have h : stp p (m * 2 ^ (k + 1)) = m * 2 ^ k := by
      unfold stp
      have e : m * 2 ^ (k + 1) = 2 * (m * 2 ^ k) := by rw [Nat.pow_succ, ← Nat.mul_assoc, Nat.mul_comm 2]
      rw [e, if_neg (by omega)]; omega
    rw [h]; exact stps_shift p k m
theorem split_xor (n : Nat) : n = (n / 256) * 2 ^ 8 ^^^ n % 256 := by
  have h : (n / 256) * 2 ^ 8 + n % 256 = n := by omega
  have e := Nat.two_pow_add_eq_or_of_lt (i := 8) (b := n % 256) (by omega) (n / 256)
  apply Nat.eq_of_testBit_eq
  intro i
  rw [Nat.testBit_xor, Nat.testBit_mul_two_pow, show (256 : Nat) = 2 ^ 8 from rfl, Nat.testBit_mod_two_pow, Nat.testBit_div_two_pow]
  by_cases hi : i < 8
  · simp [hi, Nat.not_le.2 hi]
  · have h8 : 8 ≤ i := by omega
    simp [hi, h8]
/-- The table's step is eight steps of the whole. -/
theorem byt_eq (p n c : Nat) : byt p n c = stps p 8 (n ^^^ c) := by
  conv => rhs; rw [split_xor n, Nat.xor_assoc, stps_xor, stps_shift]
  rfl
theorem byt_lt {p n c : Nat} (hp : p < 4294967296) (hn : n < 4294967296) (hc : c < 256) : byt p n c < 4294967296 := by
  rw [byt_eq]; exact stps_lt hp 8 (Nat.xor_lt_two_pow (n := 32) (by omega) (by omega))
theorem run_lt {p : Nat} (hp : p < 4294967296) : ∀ (l : List Nat) {n : Nat}, n < 4294967296 → (∀ c ∈ l, c < 256) → run p n l < 4294967296
  | [], _, h, _ => h
  | c :: l, _, h, hl => run_lt hp l (byt_lt hp h (hl c (by simp))) (fun d hd => hl d (by simp [hd]))
theorem inv_lt {n : Nat} (h : n < 4294967296) : inv n < 4294967296 := Nat.xor_lt_two_pow (n := 32) (by omega) (by omega)
theorem inv_inv (n : Nat) : inv (inv n) = n := by unfold inv; rw [Nat.xor_assoc, Nat.xor_self, Nat.xor_zero]
theorem crc_lt {p s : Nat} {l : List Nat} (hp : p < 4294967296) (hs : s < 4294967296) (hl : ∀ c ∈ l, c < 256) : crc p s l < 4294967296 :=
  inv_lt (run_lt hp l (inv_lt hs) hl)
theorem run_append (p n : Nat) (a b : List Nat) : run p n (a ++ b) = run p (run p n a) b := by simp [run]
theorem crc_append (p s : Nat) (a b : List Nat) : crc p s (a ++ b) = crc p (crc p s a) b := by
  unfold crc; rw [inv_inv, run_append]
theorem crc_nil (p s : Nat) : crc p s [] = s := inv_inv s

/-- Exclusive ors of rows of one length. -/
def xors (a b : List Nat) : List Nat := List.zipWith (· ^^^ ·) a b
theorem run_xor (p : Nat) : ∀ (a b : List Nat) (m n : Nat), a.length = b.length → run p (m ^^^ n) (xors a b) = run p m a ^^^ run p n b
  | [], [], _, _, _ => rfl
  | x :: a, y :: b, m, n, h => by
    show run p (byt p (m ^^^ n) (x ^^^ y)) (xors a b) = run p (byt p m x) a ^^^ run p (byt p n y) b
    rw [byt_eq, byt_eq, byt_eq, xor4, stps_xor]
    exact run_xor p a b _ _ (by simpa using h)
theorem xor3 (a b c : Nat) : (a ^^^ b) ^^^ c = a ^^^ (b ^^^ c) := Nat.xor_assoc a b c
theorem crc_xor (p s : Nat) (a b : List Nat) (h : a.length = b.length) :
    crc p s a ^^^ crc p s b ^^^ crc p s (List.replicate a.length 0) = crc p s (xors a b) := by
  have e1 : xors (xors a b) (List.replicate a.length 0) = xors a b := by
    unfold xors
    apply List.ext_getElem
    · simp [List.length_zipWith, h]
    · intro i h1 h2; simp
  have h1 := run_xor p a b (inv s) (inv s) h
  have h2 := run_xor p (xors a b) (List.replicate a.length 0) (inv s ^^^ inv s) (inv s) (by simp [xors, List.length_zipWith, h])
  rw [e1, Nat.xor_self, Nat.zero_xor] at h2
  rw [Nat.xor_self] at h1
  unfold crc
  rw [h2, h1]
  unfold inv
  generalize run p (s ^^^ 4294967295) a = x
  generalize run p (s ^^^ 4294967295) b = y
  generalize run p (s ^^^ 4294967295) (List.replicate a.length 0) = z
  rw [xor4 x 4294967295 y, Nat.xor_self, Nat.xor_zero, Nat.xor_assoc, Nat.xor_assoc, Nat.xor_assoc]
/-- Two seeds part by the same, whatever the rows. -/
theorem crc_seeds (p s t : Nat) (a b : List Nat) (h : a.length = b.length) : crc p s a ^^^ crc p t a = crc p s b ^^^ crc p t b := by
  have key : ∀ l : List Nat, crc p s l ^^^ crc p t l = run p (s ^^^ t) (List.replicate l.length 0) := by
    intro l
    have h1 := run_xor p l l (inv s) (inv t) rfl
    have e : xors l l = List.replicate l.length 0 := by
      unfold xors
      apply List.ext_getElem
      · simp
      · intro i h1 h2; simp
    have e2 : inv s ^^^ inv t = s ^^^ t := by unfold inv; rw [xor4, Nat.xor_self, Nat.xor_zero]
    rw [e, e2] at h1
    unfold crc
    rw [h1]
    unfold inv
    rw [xor4, Nat.xor_self, Nat.xor_zero]
  rw [key, key, h]

/-- Where the polynomial's top bit is set a step can be undone. -/
theorem stp_inj {p a b : Nat} (hp : p < 4294967296) (ht : 2147483648 ≤ p) (ha : a < 4294967296) (hb : b < 4294967296) (h : stp p a = stp p b) : a = b := by
  have hz : stp p (a ^^^ b) = 0 := by rw [stp_xor, h, Nat.xor_self]
  have hx : a ^^^ b < 4294967296 := Nat.xor_lt_two_pow (n := 32) (by omega) (by omega)
  have h0 : a ^^^ b = 0 := by
    generalize a ^^^ b = x at *
    unfold stp at hz
    split at hz
    · exfalso
      have : x / 2 = p := by
        have := congrArg (· ^^^ p) hz
        simpa [Nat.xor_assoc] using this
      omega
    · omega
  have := congrArg (· ^^^ b) h0
  simpa [Nat.xor_assoc] using this
theorem stps_inj {p : Nat} (hp : p < 4294967296) (ht : 2147483648 ≤ p) : ∀ (k : Nat) {a b : Nat}, a < 4294967296 → b < 4294967296 → stps p k a = stps p k b → a = b
  | 0, _, _, _, _, h => h
  | k + 1, _, _, ha, hb, h => stp_inj hp ht ha hb (stps_inj hp ht k (stp_lt hp ha) (stp_lt hp hb) h)
theorem xor_cancel {a b c : Nat} (h : a ^^^ c = b ^^^ c) : a = b := by
  have := congrArg (· ^^^ c) h
  simpa [Nat.xor_assoc] using this
theorem xor_cancel' {a b c : Nat} (h : c ^^^ a = c ^^^ b) : a = b := by
  rw [Nat.xor_comm c, Nat.xor_comm c] at h; exact xor_cancel h
theorem byt_inj {p m n c : Nat} (hp : p < 4294967296) (ht : 2147483648 ≤ p) (hm : m < 4294967296) (hn : n < 4294967296) (hc : c < 256) (h : byt p m c = byt p n c) : m = n := by
  rw [byt_eq, byt_eq] at h
  exact xor_cancel (stps_inj hp ht 8 (Nat.xor_lt_two_pow (n := 32) (by omega) (by omega)) (Nat.xor_lt_two_pow (n := 32) (by omega) (by omega)) h)
theorem byt_inj' {p n c d : Nat} (hp : p < 4294967296) (ht : 2147483648 ≤ p) (hn : n < 4294967296) (hc : c < 256) (hd : d < 256) (h : byt p n c = byt p n d) : c = d := by
  rw [byt_eq, byt_eq] at h
  exact xor_cancel' (stps_inj hp ht 8 (Nat.xor_lt_two_pow (n := 32) (by omega) (by omega)) (Nat.xor_lt_two_pow (n := 32) (by omega) (by omega)) h)
theorem run_inj {p : Nat} (hp : p < 4294967296) (ht : 2147483648 ≤ p) : ∀ (l : List Nat) {m n : Nat}, m < 4294967296 → n < 4294967296 → (∀ c ∈ l, c < 256) → run p m l = run p n l → m = n
  | [], _, _, _, _, _, h => h
  | c :: l, _, _, hm, hn, hl, h =>
    byt_inj hp ht hm hn (hl c (by simp)) (run_inj hp ht l (byt_lt hp hm (hl c (by simp))) (byt_lt hp hn (hl c (by simp))) (fun d hd => hl d (by simp [hd])) h)
theorem inv_inj {a b : Nat} (h : inv a = inv b) : a = b := xor_cancel h
theorem crc_seed_inj {p s t : Nat} {l : List Nat} (hp : p < 4294967296) (ht : 2147483648 ≤ p) (hs : s < 4294967296) (hu : t < 4294967296) (hl : ∀ c ∈ l, c < 256) (h : crc p s l = crc p t l) : s = t :=
  inv_inj (run_inj hp ht l (inv_lt hs) (inv_lt hu) hl (inv_inj h))
theorem xor_ne (c b : Nat) (hb : b ≠ 0) : c ^^^ b ≠ c := by
  intro h
  have := congrArg (c ^^^ ·) h
  simp [← Nat.xor_assoc] at this
  exact hb this
/-- One byte turned: another check. -/
theorem crc_turn {p s : Nat} {l : List Nat} {i : Nat} {d : Nat} (hp : p < 4294967296) (ht : 2147483648 ≤ p) (hs : s < 4294967296) (hl : ∀ c ∈ l, c < 256) (hi : i < l.length) (hd : d < 256) (hne : d ≠ l[i]) :
    crc p s (l.set i d) ≠ crc p s l := by
  intro h
  have e : l = l.take i ++ l[i] :: l.drop (i + 1) := by simp
  have e2 : l.set i d = l.take i ++ d :: l.drop (i + 1) := List.set_eq_take_append_cons_drop .. |>.trans (if_pos hi)
  have h2 := inv_inj h
  rw [e2] at h2
  have h3 : run p (inv s) (l.take i ++ d :: l.drop (i + 1)) = run p (inv s) (l.take i ++ l[i] :: l.drop (i + 1)) := h2.trans (congrArg _ e)
  rw [run_append, run_append] at h3
  have hm := run_lt hp (l.take i) (inv_lt hs) (fun c hc => hl c (List.mem_of_mem_take hc))
  have hli : l[i] < 256 := hl _ (List.getElem_mem hi)
  have h4 := run_inj hp ht (l.drop (i + 1)) (byt_lt hp hm hd) (byt_lt hp hm hli) (fun c hc => hl c (List.mem_of_mem_drop hc)) h3
  exact hne (byt_inj' hp ht hm hd hli h4)

/-- A byte as its bits' exclusive or: so is its place in the table. -/
def bit (k i : Nat) : Nat := if k / 2 ^ i % 2 = 1 then 2 ^ i else 0
def sumTo (f : Nat → Nat) : Nat → Nat
  | 0 => 0
  | i + 1 => sumTo f i ^^^ f i
theorem sum_bits (k : Nat) : ∀ i, sumTo (bit k) i = k % 2 ^ i
  | 0 => by simp [sumTo, Nat.mod_one]
  | i + 1 => by
    rw [sumTo, sum_bits k i]
    apply Nat.eq_of_testBit_eq
    intro j
    rw [Nat.testBit_xor, Nat.testBit_mod_two_pow, Nat.testBit_mod_two_pow]
    unfold bit
    by_cases hb : k / 2 ^ i % 2 = 1
    · rw [if_pos hb, Nat.testBit_two_pow]
      by_cases hj : j < i
      · simp [hj, show j < i + 1 from by omega, show i ≠ j from by omega]
      · by_cases he : j = i
        · subst he
          have : k.testBit j = true := by rw [Nat.testBit_eq_decide_div_mod_eq]; simpa using hb
          simp [this]
        · simp [hj, show ¬ j < i + 1 from by omega, show i ≠ j from fun e => he e.symm]
    · rw [if_neg hb, Nat.zero_testBit, Bool.xor_false]
      by_cases hj : j < i
      · simp [hj, show j < i + 1 from by omega]
      · by_cases he : j = i
        · subst he
          have : k.testBit j = false := by rw [Nat.testBit_eq_decide_div_mod_eq]; simpa using hb
          simp [this]
        · simp [hj, show ¬ j < i + 1 from by omega]
theorem stps_sum (p k : Nat) : ∀ i, sumTo (fun j => stps p 8 (bit k j)) i = stps p 8 (sumTo (bit k) i)
  | 0 => (stps_zero p 8).symm
  | i + 1 => by rw [sumTo, sumTo, stps_xor, stps_sum p k i]
theorem stps_bits (p k : Nat) (hk : k < 256) : sumTo (fun j => stps p 8 (bit k j)) 8 = stps p 8 k := by
  rw [stps_sum, sum_bits, Nat.mod_eq_of_lt (by omega)]

def poly (i : Nat) : Nat := if i = 0 then 3988292384 else if i = 1 then 2197175160 else if i = 2 then 3945912366 else 3582100097
theorem poly_lt (i : Nat) : poly i < 4294967296 := by unfold poly; (repeat' split) <;> omega
theorem poly_top (i : Nat) : 2147483648 ≤ poly i := by unfold poly; (repeat' split) <;> omega
def nine : List Nat := [49, 50, 51, 52, 53, 54, 55, 56, 57]
theorem awake1 : crc 3988292384 0 nine = 3421780262 := by decide +kernel
theorem awake2 : crc 2197175160 0 nine = 3808858755 := by decide +kernel
theorem awake3 : stps 3988292384 8 1 = 1996959894 := by decide +kernel
end Go.Proofs.Ytgjecemmejaieaa
