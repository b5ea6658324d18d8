/-
  VipsPools: what is there.
-/
import Derived.Test.YthfgccibiajneaaPvNumsQ
namespace Go.Proofs.Ythfgccibiajneaa
open Go.RowKit Go.Shelf
theorem adq_vld2 (v : Bool) (n : Nat) : vld (adq v n).a = true := by cases v <;> rfl
theorem adq_inj2 {u v : Bool} {m n : Nat} (hm : m < 200) (hn : n < 200) (h : adq u m = adq v n) : m = n := by
  have h2 := congrArg (fun d : Dp => d.a.b) h
  simp only [adq, List.cons.injEq, and_true, true_and] at h2
  omega
theorem srq_ok (v : Bool) (L : List Int) (h : L.length ≤ 32) : mOk (srq v L) = true := by
  unfold mOk
  rw [srq_len, decide_eq_true h, Bool.true_and]
  refine mGo_of _ _ (fun x hx => ?_) ?_
  · obtain ⟨i, _, rfl⟩ := List.mem_map.1 hx
    exact ⟨adq_vld2 _ _, by simp only; omega, by simp only; omega, by simp⟩
  · unfold srq
    rw [List.pairwise_map]
    refine List.Pairwise.imp_of_mem (fun ha hb hab => ?_) (List.pairwise_lt_range (n := L.length))
    have ha := List.mem_range.1 ha
    have hb := List.mem_range.1 hb
    intro he
    have := adq_inj2 (by omega) (by omega) he
    omega
theorem srq_w (v : Bool) (L : List Int) : ∀ x ∈ srq v L, wOk x := by
  intro x hx
  obtain ⟨i, _, rfl⟩ := List.mem_map.1 hx
  exact wOk_of ⟨by simp only; omega, by simp only; omega⟩
theorem srq_v6 (v : Bool) (L : List Int) : ∀ x ∈ srq v L, x.d.a.v6 = v := by
  intro x hx
  obtain ⟨i, _, rfl⟩ := List.mem_map.1 hx
  rfl
def k1 : Ky := akey 1 false false
/-- The n-th VIP. -/
def vP (i : Nat) : Vp := ⟨6, k1.dst, i % 65536, by omega, by omega⟩
theorem vP_inj {i j : Nat} (hi : i < 65536) (hj : j < 65536) (h : vP i = vP j) : i = j := by
  have := congrArg Vp.port h
  simp only [vP] at this
  omega
theorem build_vP (j : Nat) (hj : j < 65536) (w : World) : bldX Try.prog 86 #[(0, .int .u8 6), (1, .agg (ac k1.dst)), (2, .int .u16 (j : Nat))] w = .ok (.value (.agg (vpc (vP j)))) w := by
  have h := build_vp 6 j k1.dst (by omega) hj w
  have e : (⟨6, k1.dst, j, by omega, hj⟩ : Vp) = vP j := by
    unfold vP
    simp only [Vp.mk.injEq, true_and]
    exact (Nat.mod_eq_of_lt hj).symm
  rw [e] at h
  exact h
theorem vP_ok (c : Cf) (i : Nat) (L : List Int) (h : L.length ≤ 32) : addOk c (vP i) (srq false L) = true := by
  unfold addOk
  rw [show vipOk (vP i) = true from rfl, srq_ok false L h]
  have : ((srq false L).any fun x => x.d.a.v6 != (vP i).a.v6) = false := by
    rw [List.any_eq_false]
    intro x hx
    rw [srq_v6 false L x hx, show (vP i).a.v6 = false from rfl]; simp
  rw [this]; simp
theorem vP_ok0 (c : Cf) (i : Nat) : addOk c (vP i) [] = true := by
  unfold addOk
  rw [show vipOk (vP i) = true from rfl, show mOk [] = true from rfl]; simp
/-- The first so many are in, each with so many servers as it has VIPs ahead. -/
def PX (X : Xs) (k : Nat) : Prop := X.length = 16 ∧ ∀ i : Nat, i < 16 → (i < k → ∃ d : Pd, X[i]? = some (vP i, some d) ∧ d.isNew (srq false (List.replicate i 0)) 32 16) ∧ (k ≤ i → X[i]? = some (vz, none))
theorem PX.zero : PX (List.replicate 16 (vz, none)) 0 := ⟨rfl, fun i hi => ⟨fun h => absurd h (by omega), fun _ => by rw [List.getElem?_replicate, if_pos hi]⟩⟩
theorem PX.lt {X : Xs} {k i : Nat} (h : PX X k) {x : Vp × Option Pd} (hx : X[i]? = some x) : i < 16 := by
  have := (List.getElem?_eq_some_iff.1 hx).1
  rw [h.1] at this; exact this
theorem PX.some {X : Xs} {k i : Nat} (h : PX X k) {v : Vp} {d : Pd} (hx : X[i]? = Option.some (v, Option.some d)) : i < k ∧ v = vP i := by
  have hi := h.lt hx
  by_cases hk : i < k
  · obtain ⟨e, he, _⟩ := (h.2 i hi).1 hk
    rw [hx] at he
    simp only [Option.some.injEq, Prod.mk.injEq] at he
    exact ⟨hk, he.1⟩
  · have he := (h.2 i hi).2 (by omega)
    rw [hx] at he
    simp at he
theorem PX.not {X : Xs} {k j : Nat} (h : PX X k) (hkj : k ≤ j) (hj : j < 65536) (i : Nat) (d : Pd) : X[i]? ≠ Option.some (vP j, Option.some d) := by
  intro hx
  have h1 := h.lt hx
  obtain ⟨h2, h3⟩ := h.some hx
  have := vP_inj (by omega) (by omega) h3
  omega
theorem PX.free {X : Xs} {k i : Nat} (h : PX X k) {u : Vp} (hx : X[i]? = Option.some (u, none)) (ht : ∀ x ∈ X.take i, x.2.isSome = true) : i = k := by
  have hi := h.lt hx
  rcases Nat.lt_trichotomy i k with h1 | h1 | h1
  · obtain ⟨e, he, _⟩ := (h.2 i hi).1 h1
    rw [hx] at he; simp at he
  · exact h1
  · have h2 := (h.2 k (by omega)).2 (Nat.le_refl _)
    have := ht _ (List.mem_of_getElem? (show (X.take i)[k]? = Option.some (vz, none) by rw [List.getElem?_take, if_pos h1]; exact h2))
    cases this
theorem PX.full {X : Xs} {k : Nat} (h : PX X k) (ha : ∀ x ∈ X, x.2.isSome = true) : 16 ≤ k := by
  rcases Nat.lt_or_ge k 16 with h1 | h1
  · have h2 := (h.2 k h1).2 (Nat.le_refl _)
    have := ha _ (List.mem_of_getElem? h2)
    cases this
  · exact h1
theorem PX.add {X : Xs} {k : Nat} (h : PX X k) (hk : k < 16) {d : Pd} (hd : d.isNew (srq false (List.replicate k 0)) 32 16) : PX (X.set k (vP k, Option.some d)) (k + 1) := by
  refine ⟨by rw [List.length_set]; exact h.1, fun i hi => ⟨fun h1 => ?_, fun h1 => ?_⟩⟩
  · rw [List.getElem?_set]
    by_cases e : k = i
    · subst e
      rw [if_pos rfl, if_pos (by rw [h.1]; exact hk)]; exact ⟨d, rfl, hd⟩
    · rw [if_neg e]
      exact (h.2 i hi).1 (by omega)
  · rw [List.getElem?_set, if_neg (by omega)]
    exact (h.2 i hi).2 (by omega)
end Go.Proofs.Ythfgccibiajneaa
