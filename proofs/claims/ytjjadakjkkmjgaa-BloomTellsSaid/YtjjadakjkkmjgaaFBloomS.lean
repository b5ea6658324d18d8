/-
  The document's filter's row: where a number belongs.
-/
import Derived.Test.YtjjadakjkkmjgaaFBloomR
namespace Go.Proofs.Ytjjadakjkkmjgaa
theorem ones_split (ws : List Nat) (p N : Nat) (h : p ≤ N) : onesTo ws N = onesTo ws p ++ (List.range' p (N - p)).filter (bt ws) := by
  unfold onesTo
  rw [List.range_eq_range', List.range_eq_range', ← List.filter_append]
  congr 1
  rw [show N = p + (N - p) by omega, ← List.range'_append_1]
  simp
theorem ones_lt (ws : List Nat) (p q : Nat) (h : q ∈ onesTo ws p) : q < p := by
  unfold onesTo at h
  exact List.mem_range.1 (List.mem_filter.1 h).1
theorem ones_mem (ws : List Nat) (p N : Nat) : p ∈ onesTo ws N ↔ p < N ∧ bt ws p = true := by
  unfold onesTo
  rw [List.mem_filter, List.mem_range]
/-- Where p belongs: behind so many. -/
def rank (ws : List Nat) (p : Nat) : Nat := (onesTo ws p).length
theorem rank_le (ws : List Nat) (p N : Nat) (h : p ≤ N) : rank ws p ≤ (onesTo ws N).length := by
  rw [ones_split ws p N h, List.length_append]; unfold rank; omega
theorem ones_take (ws : List Nat) (p N : Nat) (h : p ≤ N) : (onesTo ws N).take (rank ws p) = onesTo ws p := by
  rw [ones_split ws p N h]; unfold rank; simp
theorem ones_drop (ws : List Nat) (p N : Nat) (h : p ≤ N) : (onesTo ws N).drop (rank ws p) = (List.range' p (N - p)).filter (bt ws) := by
  rw [ones_split ws p N h]; unfold rank; simp
theorem ones_get (ws : List Nat) (p N j : Nat) (h : p ≤ N) (hb : bt ws p = false) (hj : j < (onesTo ws N).length) : p < (onesTo ws N).getD j 0 ↔ rank ws p ≤ j := by
  rw [List.getD_eq_getElem?_getD]
  have hs := ones_split ws p N h
  rw [hs] at hj ⊢
  by_cases hr : j < (onesTo ws p).length
  · rw [List.getElem?_append_left hr, List.getElem?_eq_getElem hr]
    have := ones_lt ws p _ (List.getElem_mem hr)
    show p < (onesTo ws p)[j] ↔ (onesTo ws p).length ≤ j
    omega
  · rw [List.getElem?_append_right (by omega)]
    rw [List.length_append] at hj
    have hk : j - (onesTo ws p).length < ((List.range' p (N - p)).filter (bt ws)).length := by omega
    rw [List.getElem?_eq_getElem hk]
    have hm := List.getElem_mem hk
    obtain ⟨h1, h2⟩ := List.mem_filter.1 hm
    rw [List.mem_range'_1] at h1
    have hne : ((List.range' p (N - p)).filter (bt ws))[j - (onesTo ws p).length] ≠ p := fun he => by rw [he, hb] at h2; cases h2
    show p < ((List.range' p (N - p)).filter (bt ws))[j - (onesTo ws p).length] ↔ (onesTo ws p).length ≤ j
    omega
theorem ones_ins (ws : List Nat) (p N : Nat) (hp : p < N) (hl : p / 64 < ws.length) (hb : bt ws p = false) :
    onesTo (insW ws p) N = (onesTo ws N).take (rank ws p) ++ p :: (onesTo ws N).drop (rank ws p) := by
  have hbt := fun q => bt_insW ws p q hl
  rw [ones_take ws p N (by omega), ones_drop ws p N (by omega), ones_split (insW ws p) p N (by omega)]
  congr 1
  · unfold onesTo
    apply List.filter_congr
    intro q hq
    rw [hbt]
    have : q < p := List.mem_range.1 hq
    have : decide (q = p) = false := by simp; omega
    rw [this, Bool.false_or]
  · obtain ⟨d, hd⟩ : ∃ d, N - p = d + 1 := ⟨N - p - 1, by omega⟩
    rw [hd, List.range'_succ, List.filter_cons_of_pos (by rw [hbt]; simp), List.filter_cons_of_neg (by rw [hb]; simp)]
    congr 1
    apply List.filter_congr
    intro q hq
    rw [hbt]
    rw [List.mem_range'_1] at hq
    have : decide (q = p) = false := by simp; omega
    rw [this, Bool.false_or]
theorem ones_same (ws : List Nat) (p N : Nat) (hl : p / 64 < ws.length) (hb : bt ws p = true) : onesTo (insW ws p) N = onesTo ws N := by
  unfold onesTo
  apply List.filter_congr
  intro q _
  rw [bt_insW ws p q hl]
  by_cases h : q = p
  · subst h; simp [hb]
  · simp [h]
/-- As many are set as there are in the row. -/
theorem cnt_ones (L : List Nat) : ∀ (ws : List Nat) (N : Nat), (∀ p ∈ L, p < N) → N ≤ ws.length * 64 → (∀ x ∈ ws, x < 18446744073709551616) → cntW ws = (onesTo ws N).length → cntW (insAll ws L) = (onesTo (insAll ws L) N).length := by
  induction L with
  | nil => intro ws N _ _ _ h; exact h
  | cons p r ih =>
    intro ws N hp hN hx h
    have hpN := hp p (by simp)
    have hl : p / 64 < ws.length := by omega
    refine ih (insW ws p) N (fun q hq => hp q (by simp [hq])) (by rw [insW_length]; exact hN) (insW_lt ws p hx) ?_
    rw [cntW_ins ws p hl hx]
    cases hb : bt ws p
    · rw [ones_ins ws p N hpN hl hb]
      simp only [List.length_append, List.length_cons, List.length_take, List.length_drop, Bool.false_eq_true, if_false]
      have := rank_le ws p N (by omega)
      omega
    · rw [ones_same ws p N hl hb]
      simp only [if_true]
      omega
end Go.Proofs.Ytjjadakjkkmjgaa
