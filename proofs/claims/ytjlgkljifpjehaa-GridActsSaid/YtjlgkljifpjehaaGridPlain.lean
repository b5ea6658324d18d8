/-
  Plain laws of a grid's places and cells (no program in sight).
-/
import Derived.WalkKit
namespace Go.Proofs.Ytjlgkljifpjehaa
/-- Is a place one of a grid's? -/
def pin (st sz : Nat) (s i : Int) : Bool := decide (0 ≤ s ∧ s < st ∧ 0 ≤ i ∧ i < sz)
section
variable {V : Type} (enc : V → List Value) (zs : List Value)
/-- The cells of a place: free, or with something there. -/
def slot : Option V → List Value
  | none => .bool false :: zs
  | some x => .bool true :: enc x
def cells (l : List (Option V)) : Array Value := (l.flatMap (slot enc zs)).toArray
def cnt (l : List (Option V)) : Nat := (l.filter Option.isSome).length
variable {enc zs} {m : Nat}
theorem slot_length (hz : zs.length = m) (he : ∀ x, (enc x).length = m) (o : Option V) : (slot enc zs o).length = m + 1 := by
  cases o <;> simp [slot, hz, he]
theorem flat_get (hz : zs.length = m) (he : ∀ x, (enc x).length = m) : ∀ (l : List (Option V)) (k j : Nat), j < m + 1 → (l.flatMap (slot enc zs))[k * (m + 1) + j]? = (l[k]?).bind fun o => (slot enc zs o)[j]?
  | [], k, j, _ => by simp
  | o :: l, 0, j, hj => by
    rw [List.flatMap_cons, List.getElem?_append_left (by rw [slot_length hz he]; omega)]
    simp
  | o :: l, k + 1, j, hj => by
    have hl := slot_length (enc := enc) hz he o
    have e : (k + 1) * (m + 1) + j = (m + 1) + (k * (m + 1) + j) := by rw [Nat.succ_mul]; omega
    rw [List.flatMap_cons, List.getElem?_append_right (by rw [hl, e]; omega), hl, e, Nat.add_sub_cancel_left, flat_get hz he l k j hj, List.getElem?_cons_succ]
theorem cells_get (hz : zs.length = m) (he : ∀ x, (enc x).length = m) (l : List (Option V)) (k j : Nat) (hj : j < m + 1) : (cells enc zs l)[k * (m + 1) + j]? = (l[k]?).bind fun o => (slot enc zs o)[j]? := by
  unfold cells
  rw [List.getElem?_toArray, flat_get hz he l k j hj]
theorem cells_size (hz : zs.length = m) (he : ∀ x, (enc x).length = m) (l : List (Option V)) : (cells enc zs l).size = l.length * (m + 1) := by
  unfold cells
  rw [List.size_toArray]
  induction l with
  | nil => simp
  | cons o l ih => rw [List.flatMap_cons, List.length_append, slot_length hz he, ih, List.length_cons, Nat.succ_mul]; omega
theorem cells_none (n : Nat) : cells enc zs (List.replicate n none) = ((List.replicate n (Value.bool false :: zs)).flatten).toArray := by
  unfold cells
  rw [List.flatMap_def, List.map_replicate]; rfl
theorem cnt_set_some (l : List (Option V)) (k : Nat) (x : V) (h : k < l.length) : cnt (l.set k (some x)) = cnt l + (if (l[k]?).join.isSome then 0 else 1) := by
  induction l generalizing k with
  | nil => simp at h
  | cons o l ih =>
    cases k with
    | zero => cases o <;> simp [cnt]
    | succ k =>
      have := ih k (by simpa using h)
      cases o <;> simp [cnt] at this ⊢ <;> omega
theorem cnt_set_none (l : List (Option V)) (k : Nat) (h : (l[k]?).join.isSome) : cnt (l.set k none) + 1 = cnt l := by
  induction l generalizing k with
  | nil => simp at h
  | cons o l ih =>
    cases k with
    | zero => cases o <;> simp [cnt] at h ⊢
    | succ k =>
      have := ih k (by simpa using h)
      cases o <;> simp [cnt] at this ⊢ <;> omega
theorem cnt_le (l : List (Option V)) : cnt l ≤ l.length := List.length_filter_le _ _
theorem cnt_replicate (n : Nat) : cnt (List.replicate n (none : Option V)) = 0 := by
  simp [cnt]
end
/-- Two cells a place: one place set anew. -/
theorem cells_set2 {V : Type} {enc : V → List Value} {zs : List Value} (hz : zs.length = 1) (he : ∀ x, (enc x).length = 1) (l : List (Option V)) (k : Nat) (hk : k < l.length) (o : Option V) (b v : Value) (ho : slot enc zs o = [b, v]) :
    ((cells enc zs l).setIfInBounds (k * 2) b).setIfInBounds (k * 2 + 1) v = cells enc zs (l.set k o) := by
  apply Array.ext_getElem?
  intro t
  obtain ⟨q, r, hr, rfl⟩ : ∃ q r, r < 2 ∧ t = q * 2 + r := ⟨t / 2, t % 2, by omega, by omega⟩
  have hs : (cells enc zs l).size = l.length * 2 := cells_size hz he l
  have h1 := cells_get hz he l q r hr
  have h2 := cells_get hz he (l.set k o) q r hr
  rw [Array.getElem?_setIfInBounds, Array.getElem?_setIfInBounds, Array.size_setIfInBounds, hs, h1, h2, List.getElem?_set]
  by_cases hq : k = q
  · subst hq
    have : r = 0 ∨ r = 1 := by omega
    rcases this with rfl | rfl
    · rw [if_neg (by omega), if_pos (by omega), if_pos (by omega), if_pos rfl, if_pos hk]
      simp [ho]
    · rw [if_pos rfl, if_pos (by omega), if_pos rfl, if_pos hk]
      simp [ho]
  · rw [if_neg (by omega), if_neg (by omega), if_neg hq]
theorem place_lt {st sz s i : Nat} (hs : s < st) (hi : i < sz) : s * sz + i < st * sz := by
  have := Nat.mul_le_mul_right sz (show s + 1 ≤ st from hs)
  rw [Nat.succ_mul] at this
  omega
theorem place_le {st sz : Nat} (h1 : st ≤ 4) (h2 : sz ≤ 1024) : st * sz ≤ 4096 := Nat.le_trans (Nat.mul_le_mul h1 h2) (by omega)
end Go.Proofs.Ytjlgkljifpjehaa
