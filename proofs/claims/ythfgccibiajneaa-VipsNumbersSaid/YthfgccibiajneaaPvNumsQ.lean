/-
  VipsNumbers: each VIP has the least number that is nobody's.
-/
import Derived.Test.YthfgccibiajneaaBaw
namespace Go.Proofs.Ythfgccibiajneaa
open Go.RowKit Go.Shelf
attribute [local go_sem ↓] exec_bldV3
theorem Vx.keep {w w' : World} {b T m : Nat} {c : Cf} {X : Xs} (h : Vx w b T m c X) {M : Nat → Prop} (hm : Mod M w w') {ty : TypeId} (hM : ∀ g, M g → ∃ cs, At w g ty cs)
    (h1 : ty ≠ 170) (h2 : ty ≠ 154) (h3 : ty ≠ 156) (h4 : ty ≠ 92) (h5 : ty ≠ 95) : Vx w' b T m c X := by
  have hne : ∀ (g : Nat) (t : TypeId) (cs : Array Value), At w g t cs → ty ≠ t → ¬ M g := fun g t cs hg ht hMg => by
    obtain ⟨cs', hc⟩ := hM g hMg
    exact At.ne hc hg ht rfl
  obtain ⟨K, hK⟩ := h.tab
  refine ⟨⟨K, hK.same (hm.block T hK.obj.lt (hne _ _ _ hK.obj h1)) (hm.block m hK.mp.lt fun hMm => ?_)⟩, fun i v d hd => ?_, h.lo, h.apart⟩
  · obtain ⟨cs, hc⟩ := hM m hMm
    exact hK.mp.notAt hc rfl
  · have hP := h.pool i v d hd
    obtain ⟨cs, hc⟩ := hP.tAt
    exact hP.away hm (hne _ _ _ hP.obj h2) (hne _ _ _ hc h3) (fun g cs hg => hne g _ cs hg h4) (fun g cs hg => hne g _ cs hg h5)
def k7 : Ky := akey 7 true true
/-- The n-th VIP. -/
def vN (i : Nat) : Vp := ⟨17, k7.dst, i % 65536, by omega, by omega⟩
theorem vN_inj {i j : Nat} (hi : i < 65536) (hj : j < 65536) (h : vN i = vN j) : i = j := by
  have := congrArg Vp.port h
  simp only [vN] at this
  omega
/-- The first so many are in. -/
def NX (X : Xs) (k : Nat) : Prop := X.length = 16 ∧ ∀ i : Nat, i < 16 → (i < k → ∃ d, X[i]? = some (vN i, some d)) ∧ (k ≤ i → X[i]? = some (vz, none))
theorem NX.zero : NX (List.replicate 16 (vz, none)) 0 := ⟨rfl, fun i hi => ⟨fun h => absurd h (by omega), fun _ => by rw [List.getElem?_replicate, if_pos hi]⟩⟩
theorem NX.lt {X : Xs} {k i : Nat} (h : NX X k) {x : Vp × Option Pd} (hx : X[i]? = some x) : i < 16 := by
  have := (List.getElem?_eq_some_iff.1 hx).1
  rw [h.1] at this; exact this
theorem NX.some {X : Xs} {k i : Nat} (h : NX X k) {v : Vp} {d : Pd} (hx : X[i]? = Option.some (v, Option.some d)) : i < k ∧ v = vN i := by
  have hi := h.lt hx
  by_cases hk : i < k
  · obtain ⟨e, he⟩ := (h.2 i hi).1 hk
    rw [hx] at he
    simp only [Option.some.injEq, Prod.mk.injEq] at he
    exact ⟨hk, he.1⟩
  · have he := (h.2 i hi).2 (by omega)
    rw [hx] at he
    simp at he
theorem NX.not {X : Xs} {k j : Nat} (h : NX X k) (hkj : k ≤ j) (hj : j < 65536) (i : Nat) (d : Pd) : X[i]? ≠ Option.some (vN j, Option.some d) := by
  intro hx
  have h1 := h.lt hx
  obtain ⟨h2, h3⟩ := h.some hx
  have := vN_inj (by omega) (by omega) h3
  omega
theorem NX.free {X : Xs} {k i : Nat} (h : NX X k) {u : Vp} (hx : X[i]? = Option.some (u, none)) (ht : ∀ x ∈ X.take i, x.2.isSome = true) : i = k := by
  have hi := h.lt hx
  rcases Nat.lt_trichotomy i k with h1 | h1 | h1
  · obtain ⟨e, he⟩ := (h.2 i hi).1 h1
    rw [hx] at he; simp at he
  · exact h1
  · have h2 := (h.2 k (by omega)).2 (Nat.le_refl _)
    have := ht _ (List.mem_of_getElem? (show (X.take i)[k]? = Option.some (vz, none) by rw [List.getElem?_take, if_pos h1]; exact h2))
    cases this
theorem NX.full {X : Xs} {k : Nat} (h : NX X k) (ha : ∀ x ∈ X, x.2.isSome = true) : 16 ≤ k := by
  rcases Nat.lt_or_ge k 16 with h1 | h1
  · have h2 := (h.2 k h1).2 (Nat.le_refl _)
    have := ha _ (List.mem_of_getElem? h2)
    cases this
  · exact h1
theorem NX.add {X : Xs} {k : Nat} (h : NX X k) (hk : k < 16) (d : Pd) : NX (X.set k (vN k, Option.some d)) (k + 1) := by
  refine ⟨by rw [List.length_set]; exact h.1, fun i hi => ⟨fun h1 => ?_, fun h1 => ?_⟩⟩
  · rw [List.getElem?_set]
    by_cases e : k = i
    · subst e
      rw [if_pos rfl, if_pos (by rw [h.1]; exact hk)]; exact ⟨d, rfl⟩
    · rw [if_neg e]
      exact (h.2 i hi).1 (by omega)
  · rw [List.getElem?_set, if_neg (by omega)]
    exact (h.2 i hi).2 (by omega)
theorem NX.back {X : Xs} {k o : Nat} (h : NX X k) (ho : o < k) (d : Pd) : NX ((X.set o (vz, none)).set o (vN o, Option.some d)) k := by
  rw [List.set_set]
  refine ⟨by rw [List.length_set]; exact h.1, fun i hi => ⟨fun h1 => ?_, fun h1 => ?_⟩⟩
  · rw [List.getElem?_set]
    by_cases e : o = i
    · subst e
      rw [if_pos rfl, if_pos (by rw [h.1]; omega)]; exact ⟨d, rfl⟩
    · rw [if_neg e]
      exact (h.2 i hi).1 h1
  · rw [List.getElem?_set, if_neg (by omega)]
    exact (h.2 i hi).2 h1
theorem cnt16 : ((List.range 17).all fun k => ((List.range 16).map fun i => decide (i < k)).countP id == k) = true := by kernel_rfl
theorem NX.cnt {X : Xs} {k : Nat} (h : NX X k) (hk : k ≤ 16) : cntX X = k := by
  have e : X.map (fun x => x.2.isSome) = (List.range 16).map fun i => decide (i < k) := by
    apply List.ext_getElem?
    intro i
    rw [List.getElem?_map, List.getElem?_map]
    rcases Nat.lt_or_ge i 16 with hi | hi
    · rw [List.getElem?_range hi, Option.map_some]
      by_cases h1 : i < k
      · obtain ⟨d, hd⟩ := (h.2 i hi).1 h1
        rw [hd]; simp [h1]
      · rw [(h.2 i hi).2 (by omega)]; simp [h1]
    · rw [List.getElem?_eq_none (by rw [h.1]; exact hi), List.getElem?_eq_none (by rw [List.length_range]; exact hi)]; rfl
  have h1 : cntX X = (X.map (fun x => x.2.isSome)).countP id := by
    unfold cntX
    rw [List.countP_map]; rfl
  have h2 := cnt16
  rw [List.all_eq_true] at h2
  rw [h1, e]
  simpa using h2 k (List.mem_range.2 (by omega))
theorem NX.cntR {X : Xs} {k o : Nat} (h : NX X k) (hk : k ≤ 16) (ho : o < k) : cntX (X.set o (vz, none)) = k - 1 := by
  obtain ⟨d, hd⟩ := (h.2 o (by omega)).1 ho
  have h1 := countP_set (fun x : Vp × Option Pd => x.2.isSome) X o _ (vz, none) hd
  have h2 := h.cnt hk
  unfold cntX at h2 ⊢
  simp only [Option.isSome_some, if_true, Option.isSome_none, Bool.false_eq_true, if_false] at h1
  omega
theorem build_vN (j : Nat) (hj : j < 65536) (w : World) : bldX Try.prog 86 #[(0, .int .u8 17), (1, .agg (ac k7.dst)), (2, .int .u16 (j : Nat))] w = .ok (.value (.agg (vpc (vN j)))) w := by
  have h := build_vp 17 j k7.dst (by omega) hj w
  have e : (⟨17, k7.dst, j, by omega, hj⟩ : Vp) = vN j := by
    unfold vN
    simp only [Vp.mk.injEq, true_and]
    exact (Nat.mod_eq_of_lt hj).symm
  rw [e] at h
  exact h
theorem vN_ok (c : Cf) (i : Nat) : addOk c (vN i) [] = true := by
  unfold addOk
  rw [show vipOk (vN i) = true from rfl, show mOk [] = true from rfl]
  simp
/-- The flow to a port, of a protocol. -/
def kU (p q : Nat) : Ky := ⟨p % 256, k7.src, k7.dst, k7.sp, q % 65536, by omega, k7.hs, by omega⟩
theorem k7_U : k7 = kU 17 80 := by unfold kU k7 akey keyOf; rfl
theorem kU_port (p q r : Nat) (hr : r < 65536) : (kc (kU p q)).setIfInBounds 36 (.int .u16 (r : Nat)) = kc (kU p r) := by
  have h36 : (kU p r).dp = r := Nat.mod_eq_of_lt hr
  apply Array.ext_getElem?
  intro j
  rw [Array.getElem?_setIfInBounds, kc_size]
  by_cases h : 36 = j
  · subst h
    rw [if_pos rfl, if_pos (by omega), kc_36?, h36]
  · rw [if_neg h]
    rcases Nat.lt_or_ge j 36 with h2 | h2
    · have hj : j = 0 ∨ j = 1 ∨ j = 2 ∨ j = 3 ∨ j = 4 ∨ j = 5 ∨ j = 6 ∨ j = 7 ∨ j = 8 ∨ j = 9 ∨ j = 10 ∨ j = 11 ∨ j = 12 ∨ j = 13 ∨ j = 14 ∨ j = 15 ∨ j = 16 ∨ j = 17 ∨ j = 18 ∨ j = 19 ∨ j = 20 ∨ j = 21 ∨ j = 22 ∨ j = 23 ∨ j = 24 ∨ j = 25 ∨ j = 26 ∨ j = 27 ∨ j = 28 ∨ j = 29 ∨ j = 30 ∨ j = 31 ∨ j = 32 ∨ j = 33 ∨ j = 34 ∨ j = 35 := by omega
      rcases hj with rfl | rfl | rfl | rfl | rfl | rfl | rfl | rfl | rfl | rfl | rfl | rfl | rfl | rfl | rfl | rfl | rfl | rfl | rfl | rfl | rfl | rfl | rfl | rfl | rfl | rfl | rfl | rfl | rfl | rfl | rfl | rfl | rfl | rfl | rfl | rfl <;> rfl
    · rw [Array.getElem?_eq_none (by rw [kc_size]; omega), Array.getElem?_eq_none (by rw [kc_size]; omega)]
theorem kU_proto (p q r : Nat) (hr : r < 256) : (kc (kU p q)).setIfInBounds 0 (.int .u8 (r : Nat)) = kc (kU r q) := by
  have h0 : (kU r q).proto = r := Nat.mod_eq_of_lt hr
  unfold kc
  rw [List.setIfInBounds_toArray]
  simp only [Ky.l, List.set_cons_zero]
  rw [h0]; rfl
theorem kU_ok (p q : Nat) (hp : p = 6 ∨ p = 17) : kvld (kU p q) = true := by
  unfold kvld
  rcases hp with rfl | rfl <;> rfl
theorem kU_vip (q : Nat) : kvip (kU 17 q) = vN q := rfl
theorem NX.notU {X : Xs} {k j : Nat} (h : NX X k) (i : Nat) (d : Pd) : X[i]? ≠ Option.some (kvip (kU 6 j), Option.some d) := by
  intro hx
  obtain ⟨_, h3⟩ := h.some hx
  have := congrArg Vp.pr h3
  simp [kvip, kU, vN] at this
end Go.Proofs.Ythfgccibiajneaa
