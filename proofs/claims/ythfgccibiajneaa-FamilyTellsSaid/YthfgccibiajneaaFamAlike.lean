/-
  What the statements share: Round, Ints, at.
-/
import Derived.Test.YthfgccibiajneaaFamNew
namespace Go.Proofs.Ythfgccibiajneaa
open Go.RowKit
theorem rem_round2 (k n : Int) (h1 : 0 < n) (h2 : n ≤ 1099511627776) : (wrap64 (k.tmod n + n)).tmod n = k % n := by
  have h3 := Int.tmod_lt_of_pos k h1
  have h4 := tmod_gt k n h1
  have h5 : wrap64 (k.tmod n + n) = k.tmod n + n := IntWalk.wrap64_in _ ⟨by omega, by omega⟩
  rw [h5, Int.tmod_eq_emod_of_nonneg (by omega), Int.add_emod_right, Int.tmod_eq_emod]
  split
  · simp
  · rw [← Int.eq_natAbs_of_nonneg (by omega)]; simp
theorem round_big (k n : Int) (h1 : 0 < n) (h2 : n ≤ 1099511627776) (w : World) :
    Calls Try.prog 41 #[.int .i64 k, .int .i64 n] w fun e w' => e = .returned (.int .i64 (k % n)) ∧ w' = w := by
  have H := Lib.hid (rem_round2 k n h1 h2)
  go_enter Try.func41, Try.ntmps41
  go_wp2
  go_ret
  exact ⟨by simp [H.out], rfl⟩
/-- One of some numbers, from 0 to ahead of N. -/
def atOf (l : List Int) (i N : Nat) : Int := if l.length = 0 then 0 else wrap64 (l.getD (i % l.length) 0 + ((i / l.length : Nat) : Int)) % N
theorem atOf_nil (l : List Int) (i N : Nat) (h : l.length = 0) : atOf l i N = 0 := by unfold atOf; rw [if_pos h]
theorem atOf_cons (l : List Int) (i N : Nat) (h : ¬ l.length = 0) : atOf l i N = wrap64 (l.getD (i % l.length) 0 + ((i / l.length : Nat) : Int)) % N := by unfold atOf; rw [if_neg h]
theorem atOf_bounds (l : List Int) (i N : Nat) (h : 0 < N) : 0 ≤ atOf l i N ∧ atOf l i N < N := by
  unfold atOf
  split
  · omega
  · exact ⟨Int.emod_nonneg _ (by omega), Int.emod_lt_of_pos _ (by omega)⟩
set_option maxRecDepth 100000 in
set_option maxHeartbeats 2000000 in
theorem at_any (a : Option Addr) (n c : Nat) (l : List Int) (i N : Nat) (w : World) (h : Ints w a n l) (hn : n ≤ 1000000) (hi : i ≤ 1000) (h1 : 0 < N) (h2 : N ≤ 1000000) :
    Calls Try.prog 82 #[.slice a n c, .int .i64 i, .int .i64 N] w fun e w' => e = .returned (.int .i64 (atOf l i N)) ∧ Below w.heap.size w w' := by
  obtain ⟨hl, hc⟩ := h
  by_cases h0 : n = 0
  · subst h0
    have H := Lib.hid (atOf_nil l i N hl)
    clear hl hc
    go_enter Try.func82, Try.ntmps82
    go_wp2_with fail
    go_ret
    exact ⟨by rw [H.out]; rfl, Below.refl _ _⟩
  · obtain ⟨b, o, rfl, hb, hcell⟩ := hc (by omega)
    have H := Lib.hid (atOf_cons l i N (by omega))
    obtain ⟨q, hq⟩ : ∃ q : Nat, q = i / n := ⟨_, rfl⟩
    obtain ⟨r, hr⟩ : ∃ r : Nat, r = i % n := ⟨_, rfl⟩
    have hrn : r < n := by rw [hr]; exact Nat.mod_lt _ (by omega)
    have hqi : q ≤ i := by rw [hq]; exact Nat.div_le_self _ _
    have hcr := hcell r hrn
    obtain ⟨x, hx⟩ : ∃ x, x = l.getD r 0 := ⟨_, rfl⟩
    rw [← hx] at hcr
    rw [hl, ← hq, ← hr, ← hx] at H
    have hx1 : (i : Int).tmod (n : Int) = (r : Int) := by rw [Int.tmod_eq_emod_of_nonneg (Int.natCast_nonneg i), ← Int.natCast_emod, ← hr]
    have hx2 : IntKind.i64.wrap ((i : Int) / (n : Int)) = (q : Int) := by rw [← Int.natCast_ediv, ← hq, IntKind.wrap_i64]; omega
    have hx3 : ((n : Int) == 0) = false := by simp; omega
    have hx4 : IntKind.i64.wrap (x + (q : Int)) = wrap64 (x + (q : Int)) := by rw [IntKind.wrap_i64]; unfold wrap64; first | rfl | omega
    have hz : ¬ n = 0 := h0
    clear hc hcell hq hr hx hl hqi
    go_enter Try.func82, Try.ntmps82
    go_wp2_with fail
    refine region_sq (fun _ => False) [(0, true), (1, true), (2, true), (3, true), (4, true), (5, true), (6, true), (7, true), (8, true), (9, true), (10, true), (11, true), (12, true), (13, false), (14, true)] (by kernel_rfl) (by kernel_rfl) (fun _ _ d _ _ h => by cases d <;> exact h) ?_
    repeat (first
      | (refine sq_yes rfl (by rfl) (fun w' hM => by ((try replace hM := hM.of_drew); obtain ⟨hR1, hR2, hR3⟩ := hM.rules; clear hM; go_simp; with_reducible rfl)) ?_; simp only [Act.put, List.setIfInBounds_toArray, List.set_cons_zero, List.set_cons_succ])
      | (refine sq_no rfl (by rfl) ?_; simp only [Act.put, List.setIfInBounds_toArray, List.set_cons_zero, List.set_cons_succ]))
    clear hx1 hx2 hx3 hx4
    refine sq_do_yes rfl (by rfl) (fun K hK => ?_)
    go_wp2_with fail
    refine (round_big (wrap64 (x + (q : Int))) N (by omega) (by omega) _).mono ?_
    rintro e w1 ⟨rfl, rfl⟩
    go_wp2_with fail
    refine ⟨Mod.refl _ _, ?_⟩
    repeat (first
      | (refine sq_yes rfl (by rfl) (fun w' hM => by ((try replace hM := hM.of_drew); obtain ⟨hR1, hR2, hR3⟩ := hM.rules; clear hM; go_simp; with_reducible rfl)) ?_; simp only [Act.put, List.setIfInBounds_toArray, List.set_cons_zero, List.set_cons_succ])
      | (refine sq_no rfl (by rfl) ?_; simp only [Act.put, List.setIfInBounds_toArray, List.set_cons_zero, List.set_cons_succ]))
    refine sq_end ?_
    go_wp2_with fail
    go_ret
    exact ⟨by rw [H.out]; rfl, (Below.refl _ _).drew⟩
set_option maxRecDepth 100000 in
set_option maxHeartbeats 2000000 in
theorem ints_any (a : Option Addr) (n c : Nat) (l : List Int) (a2 : Option Addr) (m c2 : Nat) (l2 : List Int) (w : World) (h : Ints w a n l) (h2 : Ints w a2 m l2) (hn : n ≤ 1000000) (hm : m ≤ 1000000) :
    Calls Try.prog 23 #[.slice a n c, .slice a2 m c2] w fun e w' => e = .returned (.bool (l == l2)) ∧ Below w.heap.size w w' := by
  have HI := Lib.hid h
  have HJ := Lib.hid h2
  have hl := h.1
  have hl2 := h2.1
  clear h h2
  by_cases hnm : n = m
  · subst hnm
    have HL := Lib.hid (And.intro hl hl2)
    clear hl hl2
    go_enter Try.func23, Try.ntmps23
    go_wp2_with fail
    go_loopw [5] (fun i wr => ∃ k : Nat, k ≤ n ∧ i = .int .i64 k ∧ l.take k = l2.take k ∧ Below w.heap.size w wr) (fun i _ => n - (intOf i).toNat)
    case atStart => exact ⟨0, Nat.zero_le _, rfl, rfl, Below.refl _ _⟩
    case round =>
      obtain ⟨k, hk, rfl, ht, hb⟩ := hrel
      have HT := Lib.hid ht
      have HB := Lib.hid hb
      clear ht hb
      by_cases hlt : k < n
      · obtain ⟨b, o, rfl, hbl, hc⟩ := (HI.out.below HB.out).2 (by omega)
        obtain ⟨b2, o2, rfl, hbl2, hc2⟩ := (HJ.out.below HB.out).2 (by omega)
        have c1 := hc k hlt
        have c2' := hc2 k hlt
        have e1 : l[k]? = some (l.getD k 0) := by rw [List.getD_eq_getElem?_getD, List.getElem?_eq_getElem (by rw [HL.out.1]; exact hlt)]; rfl
        have e2 : l2[k]? = some (l2.getD k 0) := by rw [List.getD_eq_getElem?_getD, List.getElem?_eq_getElem (by rw [HL.out.2]; exact hlt)]; rfl
        obtain ⟨x, hx⟩ : ∃ x, x = l.getD k 0 := ⟨_, rfl⟩
        obtain ⟨y, hy⟩ : ∃ y, y = l2.getD k 0 := ⟨_, rfl⟩
        rw [← hx] at c1 e1
        rw [← hy] at c2' e2
        have E := Lib.hid (And.intro e1 e2)
        clear hc hc2 hx hy e1 e2
        by_cases hxy : x = y
        · subst hxy
          go_wp2_with fail
          refine region_sq (fun _ => False) [(0, true), (1, true), (2, true), (3, true), (4, true), (5, true), (6, true), (7, true), (8, true)] (by kernel_rfl) (by kernel_rfl) (fun _ _ d _ _ h => by cases d <;> exact h) ?_
          repeat (first
            | (refine sq_yes rfl (by rfl) (fun w' hM => by ((try replace hM := hM.of_drew); obtain ⟨hR1, hR2, hR3⟩ := hM.rules; clear hM; go_simp; with_reducible rfl)) ?_; simp only [Act.put, List.setIfInBounds_toArray, List.set_cons_zero, List.set_cons_succ])
            | (refine sq_no rfl (by rfl) ?_; simp only [Act.put, List.setIfInBounds_toArray, List.set_cons_zero, List.set_cons_succ]))
          refine sq_end ?_
          go_wp2_with fail
          go_roundw
          case rel => exact ⟨k + 1, by omega, by go_num, by rw [List.take_add_one, List.take_add_one, E.out.1, E.out.2, HT.out], HB.out.drew⟩
          case measure => simp [intOf]; omega
        · have hne : (x != y) = true := by simpa using hxy
          have HF : Hid ((l == l2) = false) := Lib.hid (by
            rw [beq_eq_false_iff_ne]
            intro he
            have := E.out.1
            rw [he, E.out.2] at this
            exact hxy (Option.some.inj this).symm)
          go_wp2_with fail
          refine region_sq (fun _ => False) [(0, true), (1, true), (2, true), (3, true), (4, true), (5, true), (6, true), (7, true), (8, true)] (by kernel_rfl) (by kernel_rfl) (fun _ _ d _ _ h => by cases d <;> exact h) ?_
          repeat (first
            | (refine sq_yes rfl (by rfl) (fun w' hM => by ((try replace hM := hM.of_drew); obtain ⟨hR1, hR2, hR3⟩ := hM.rules; clear hM; go_simp; with_reducible rfl)) ?_; simp only [Act.put, List.setIfInBounds_toArray, List.set_cons_zero, List.set_cons_succ])
            | (refine sq_no rfl (by rfl) ?_; simp only [Act.put, List.setIfInBounds_toArray, List.set_cons_zero, List.set_cons_succ]))
          refine sq_end ?_
          go_wp2_with fail
          go_ret
          exact ⟨by rw [HF.out]; rfl, HB.out.drew⟩
      · obtain rfl : k = n := by omega
        have HF : Hid ((l == l2) = true) := Lib.hid (by
          rw [beq_iff_eq]
          have := HT.out
          rwa [List.take_of_length_le (by rw [HL.out.1]; exact Nat.le_refl _), List.take_of_length_le (by rw [HL.out.2]; exact Nat.le_refl _)] at this)
        go_wp2_with fail
        go_ret
        exact ⟨by rw [HF.out]; rfl, HB.out⟩
  · have HF : Hid ((l == l2) = false) := Lib.hid (by
      rw [beq_eq_false_iff_ne]
      intro he
      rw [he] at hl
      omega)
    clear hl hl2
    go_enter Try.func23, Try.ntmps23
    go_wp2_with fail
    go_ret
    exact ⟨by rw [HF.out]; rfl, Below.refl _ _⟩
end Go.Proofs.Ythfgccibiajneaa
