/-
  Arguments made of numbers and bools alone: what their cells hold; slices of such structs.
-/
import Derived.Test.YtgjecemmejaieaaBav
import Derived.OpenShut
import Derived.Deep.Slices
import Derived.ChangeArms
namespace Go.Proofs.Ytgjecemmejaieaa
open Go.RowKit Go.ChangeShapes Go.WideShapes Go.Deep
inductive Pl where
  | int (k : IntKind)
  | bool
def okPl : Pl → Value → Prop
  | .int k, v => ∃ n, v = .int k n ∧ (Lit.int k n).wf = true
  | .bool, v => ∃ b, v = .bool b
/-- The kinds of a struct's cells, field by field. -/
def flatF (P : Program) (g : TypeId → Option (List Pl)) : List Field → Nat → Option (List Pl)
  | [], _ => some []
  | f :: r, off => match g f.type with
    | some ks => if f.offset == off && P.cellsOf f.type == ks.length then (flatF P g r (off + ks.length)).map (ks ++ ·) else none
    | none => none
/-- The kinds of a type's cells: none: not of numbers and bools alone. -/
def flatK (P : Program) : Nat → TypeId → Option (List Pl)
  | 0, _ => none
  | d + 1, t => match P.underlying t with
    | some (.int k) => some [.int k]
    | some .bool => some [.bool]
    | some (.struct fs) => flatF P (flatK P d) fs.toList 0
    | some (.array n e) => match flatK P d e with
      | some ks => if P.cellsOf e == ks.length then some (List.replicate n ks).flatten else none
      | none => none
    | _ => none
section
variable {H : Type} {enc : TypeId × Value → H} {P : Program} {w : World} {base : Nat} {spare : Nat → Bool} {held : Bool}
theorem replGet {α : Type} : ∀ (m : Nat) (l : List α) (i j : Nat), j < l.length → (List.replicate m l).flatten[i * l.length + j]? = ((List.replicate m l)[i]?).bind fun x => x[j]?
  | 0, l, i, j, _ => by simp
  | m + 1, l, 0, j, hj => by
    rw [List.replicate_succ, List.flatten_cons, List.getElem?_append_left (by omega)]
    simp
  | m + 1, l, i + 1, j, hj => by
    have e : (i + 1) * l.length + j = l.length + (i * l.length + j) := by rw [Nat.succ_mul]; omega
    rw [List.replicate_succ, List.flatten_cons, List.getElem?_append_right (by omega), e, Nat.add_sub_cancel_left, replGet m l i j hj, List.getElem?_cons_succ]
theorem flatF_ok {g : TypeId → Option (List Pl)} {cs : List Value}
    (hg : ∀ t ks cs' fuel x, g t = some ks → DataW.trod enc P w base spare held fuel t cs' = some x → ∀ (j : Nat) (k : Pl), ks[j]? = some k → ∃ v, cs'[j]? = some v ∧ okPl k v) :
    ∀ (fs : List Field) (off : Nat) (ks : List Pl), flatF P g fs off = some ks → (∀ f ∈ fs, ∃ n x, DataW.trod enc P w base spare held n f.type ((cs.drop f.offset).take (P.cellsOf f.type)) = some x) →
      ∀ (j : Nat) (k : Pl), ks[j]? = some k → ∃ v, cs[off + j]? = some v ∧ okPl k v
  | [], off, ks, h, _, j, k, hk => by simp only [flatF, Option.some.injEq] at h; subst h; simp at hk
  | f :: r, off, ks, h, ht, j, k, hk => by
    unfold flatF at h
    split at h
    · rename_i k1 h1
      split at h
      · rename_i h2
        simp only [Bool.and_eq_true, beq_iff_eq] at h2
        obtain ⟨k2, h3, rfl⟩ := Option.map_eq_some_iff.1 h
        obtain ⟨n, x, h4⟩ := ht f (by simp)
        have h5 := hg _ _ _ _ _ h1 h4
        by_cases hj : j < k1.length
        · rw [List.getElem?_append_left hj] at hk
          obtain ⟨v, h6, h7⟩ := h5 j k hk
          refine ⟨v, ?_, h7⟩
          rw [List.getElem?_take, List.getElem?_drop, h2.1] at h6
          split at h6
          · exact h6
          · cases h6
        · rw [List.getElem?_append_right (by omega)] at hk
          have := flatF_ok hg r _ _ h3 (fun f' hf' => ht f' (by simp [hf'])) _ _ hk
          rwa [show off + k1.length + (j - k1.length) = off + j by omega] at this
      · cases h
    · cases h
theorem flatK_ok : ∀ (d : Nat) (t : TypeId) (ks : List Pl) (cs : List Value) (fuel : Nat) (x : DataW H × List MemPlace), flatK P d t = some ks → DataW.trod enc P w base spare held fuel t cs = some x →
    ∀ (j : Nat) (k : Pl), ks[j]? = some k → ∃ v, cs[j]? = some v ∧ okPl k v
  | 0, t, ks, cs, fuel, x, h, _ => by cases h
  | d + 1, t, ks, cs, fuel, x, h, hx => by
    unfold flatK at h
    split at h
    · rename_i k0 hu
      obtain ⟨n, rfl, _, hw⟩ := DataW.trod_int hu hx
      simp only [Option.some.injEq] at h
      subst h
      intro j k hk
      have hj : j = 0 := by have := (List.getElem?_eq_some_iff.1 hk).1; simp at this; exact this
      subst hj
      simp only [List.getElem?_cons_zero, Option.some.injEq] at hk
      subst hk
      exact ⟨_, rfl, n, rfl, hw⟩
    · rename_i hu
      obtain ⟨n, rfl, _⟩ := DataW.trod_bool hu hx
      simp only [Option.some.injEq] at h
      subst h
      intro j k hk
      have hj : j = 0 := by have := (List.getElem?_eq_some_iff.1 hk).1; simp at this; exact this
      subst hj
      simp only [List.getElem?_cons_zero, Option.some.injEq] at hk
      subst hk
      exact ⟨_, rfl, n, rfl⟩
    · rename_i fs hu
      obtain ⟨xs, n, rfl, _, hl, hxl, hf⟩ := DataW.trod_struct hu hx
      intro j k hk
      have := flatF_ok (fun t ks cs' fuel x a b => flatK_ok d t ks cs' fuel x a b) fs.toList 0 ks h (fun f hm => by
        obtain ⟨i, hi⟩ := List.getElem?_of_mem hm
        rw [Array.getElem?_toList] at hi
        have hlt : i < fs.size := (Array.getElem?_eq_some_iff.1 hi).1
        exact ⟨n, xs[i]'(by omega), by rw [hf i f hi]; exact List.getElem?_eq_getElem _⟩) j k hk
      rwa [Nat.zero_add] at this
    · rename_i m e hu
      split at h
      · rename_i k1 h1
        split at h
        · rename_i h2
          simp only [beq_iff_eq] at h2
          simp only [Option.some.injEq] at h
          subst h
          obtain ⟨xs, n, rfl, _, hl, hxl, hf⟩ := DataW.trod_array hu hx
          intro j k hk
          have hjl : j < m * k1.length := by have := (List.getElem?_eq_some_iff.1 hk).1; simpa using this
          have hk0 : 0 < k1.length := Nat.pos_of_ne_zero fun h0 => by rw [h0] at hjl; simp at hjl
          have hr : j % k1.length < k1.length := Nat.mod_lt _ hk0
          have hq : j / k1.length * k1.length + j % k1.length = j := by rw [Nat.mul_comm]; exact Nat.div_add_mod j _
          have hql : j / k1.length < m := Nat.div_lt_of_lt_mul (by rwa [Nat.mul_comm] at hjl)
          have h3 := hf _ hql
          rw [List.getElem?_eq_getElem (by rw [hxl]; exact hql)] at h3
          have h4 := flatK_ok d _ _ _ _ _ h1 h3
          have h5 : k1[j % k1.length]? = some k := by
            have : (List.replicate m k1).flatten[j / k1.length * k1.length + j % k1.length]? = ((List.replicate m k1)[j / k1.length]?).bind fun x => x[j % k1.length]? := replGet m k1 _ _ hr
            rw [hq, hk, List.getElem?_replicate, if_pos hql, Option.bind_some] at this
            exact this.symm
          obtain ⟨v, h6, h7⟩ := h4 _ _ h5
          refine ⟨v, ?_, h7⟩
          rw [List.getElem?_take, List.getElem?_drop, h2, if_pos hr, hq] at h6
          exact h6
        · cases h
      · cases h
    · cases h
end
theorem spot_of_cell {w : World} {a : Addr} {v : Value} (h : w.cell? a = some v) : a.spot = none ∧ a.block < w.heap.size := by
  refine ⟨?_, World.block_lt_of_cell? _ _ h⟩
  unfold World.cell? at h
  split at h
  · split at h
    · cases h
    · rename_i hs; simpa using hs
  · cases h
/-- A slice that came in, of elements of numbers and bools alone: what its cells hold. -/
def IsFlat (ks : List Pl) (w : World) (a : Option Addr) (len cap : Nat) : Prop :=
  len ≤ cap ∧ cap ≤ maxLen ∧ (0 < len → ∃ b o, a = some ⟨b, o, none⟩ ∧ b < w.heap.size ∧ ∃ f : Nat → Nat → Value, ∀ i j k, i < len → ks[j]? = some k → w.cell? ⟨b, o + i * ks.length + j, none⟩ = some (f i j) ∧ okPl k (f i j))
section
variable {H : Type} {enc : TypeId × Value → H} {P : Program} {w : World} {base : Nat} {spare : Nat → Bool} {held : Bool}
theorem isFlat_of {t e : TypeId} {ks : List Pl} {fuel : Nat} {a : Option Addr} {len cap : Nat} {x : DataW H × List MemPlace} (d : Nat) (ht : P.underlying t = some (.slice e)) (hk : flatK P d e = some ks) (hc : P.cellsOf e = ks.length) (h0 : 0 < ks.length)
    (h : DataW.trod enc P w base spare held fuel t [.slice a len cap] = some x) : IsFlat ks w a len cap := by
  rcases open_slice ht h with ⟨h0, _⟩ | ⟨a', l, c, m, n, D, Q, h0, hb, hl, hm, hmm, _, hx⟩
  · simp only [List.cons.injEq, Value.slice.injEq, and_true] at h0
    obtain ⟨rfl, rfl, rfl⟩ := h0
    exact ⟨Nat.le_refl _, Nat.zero_le _, fun h => absurd h (by omega)⟩
  · simp only [List.cons.injEq, Value.slice.injEq, and_true] at h0
    obtain ⟨rfl, rfl, rfl⟩ := h0
    refine ⟨hl, hm, fun hpos => ?_⟩
    have hlm : len ≤ m := by rw [hmm]; split <;> omega
    have key : ∀ i j k, i < len → ks[j]? = some k → ∃ v, w.cell? (a'.add (i * ks.length + j)) = some v ∧ okPl k v := by
      intro i j k hi hj
      obtain ⟨cs', h1, h2⟩ := hx i (by omega)
      rw [hc] at h1
      obtain ⟨_, h3, h4⟩ := World.cells?_some h1
      obtain ⟨v, h5, h6⟩ := flatK_ok d e ks cs' n _ hk h2 j k hj
      have hjl : j < ks.length := (List.getElem?_eq_some_iff.1 hj).1
      refine ⟨v, ?_, h6⟩
      rw [← h5, ← h4 j hjl, add_add]
    have hs : a'.spot = none ∧ a'.block < w.heap.size := by
      obtain ⟨v, h1, _⟩ := key 0 0 _ hpos (List.getElem?_eq_getElem h0)
      rw [Nat.zero_mul, Nat.zero_add, show a'.add 0 = a' from by simp [Addr.add]] at h1
      exact spot_of_cell h1
    obtain ⟨b, o, s⟩ := a'
    obtain ⟨hs, hlt⟩ := hs
    simp only at hs hlt
    subst hs
    refine ⟨b, o, rfl, hlt, fun i j => (w.cell? ⟨b, o + i * ks.length + j, none⟩).getD undef, fun i j k hi hj => ?_⟩
    obtain ⟨v, h1, h2⟩ := key i j k hi hj
    rw [add_plain, ← Nat.add_assoc] at h1
    show w.cell? _ = some (Option.getD (w.cell? ⟨b, o + i * ks.length + j, none⟩) undef) ∧ okPl k (Option.getD (w.cell? ⟨b, o + i * ks.length + j, none⟩) undef)
    rw [h1]
    exact ⟨rfl, h2⟩
end
/-- .. read as a list, by a reader of an element's cells. -/
theorem IsFlat.rd {α : Type} {k : Nat} {enc : α → List Value} {ks : List Pl} {w : World} {a : Option Addr} {len cap : Nat} (h : IsFlat ks w a len cap) (dec : (Nat → Value) → α) (hk : ks.length = k)
    (hd : ∀ g : Nat → Value, (∀ j k, ks[j]? = some k → okPl k (g j)) → ∀ j, j < ks.length → (enc (dec g))[j]? = some (g j)) : ∃ L : List α, Rd k enc w a len L ∧ ∀ x ∈ L, ∃ g : Nat → Value, x = dec g ∧ ∀ j k, ks[j]? = some k → okPl k (g j) := by
  subst hk
  rcases Nat.eq_zero_or_pos len with h0 | h0
  · subst h0
    exact ⟨[], Rd.zero _ _ _ _, by simp⟩
  · obtain ⟨b, o, rfl, hb, f, hf⟩ := h.2.2 h0
    refine ⟨(List.range len).map fun i => dec (f i), ⟨by simp, fun _ => ⟨b, o, rfl, hb, fun i x hx j hj => ?_⟩⟩, ?_⟩
    · simp only [List.getElem?_map, Option.map_eq_some_iff] at hx
      obtain ⟨i', hi', rfl⟩ := hx
      have hi2 : i < len := by have := (List.getElem?_eq_some_iff.1 hi').1; simpa using this
      obtain rfl : i = i' := by
        rw [List.getElem?_range hi2] at hi'; exact Option.some.inj hi'
      rw [hd (f i) (fun j k hj => (hf i j k hi2 hj).2) j hj]
      exact (hf i j _ hi2 (List.getElem?_eq_getElem hj)).1
    · intro x hx
      obtain ⟨i, hi, rfl⟩ := List.mem_map.1 hx
      exact ⟨f i, rfl, fun j k hj => (hf i j k (List.mem_range.1 hi) hj).2⟩
end Go.Proofs.Ytgjecemmejaieaa
