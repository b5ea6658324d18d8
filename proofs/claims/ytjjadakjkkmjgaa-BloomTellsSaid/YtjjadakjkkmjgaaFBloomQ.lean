/-
  Slices that came in; filters into which many were put.
-/
import Derived.Test.YtjjadakjkkmjgaaFBloomI
import Derived.Test.YtjjadakjkkmjgaaFBloomP
namespace Go.Proofs.Ytjjadakjkkmjgaa
open Go.RowKit
/-- A slice of integers that came in: what is made later leaves it alone. -/
def InI (B : Nat) (w : World) (a : Option Addr) (n : Nat) (l : List Int) : Prop := Ints w a n l ∧ (0 < n → ∀ b o, a = some ⟨b, o, none⟩ → b < B)
theorem InI.below {B : Nat} {w w' : World} {a : Option Addr} {n : Nat} {l : List Int} (h : InI B w a n l) (hb : Below w.heap.size w w') : InI B w' a n l := ⟨h.1.below hb, h.2⟩
theorem InI.drew {B : Nat} {w : World} {a : Option Addr} {n : Nat} {l : List Int} (h : InI B w a n l) : InI B w.drew a n l := h
theorem InI.modb {B : Nat} {w w' : World} {M : Nat → Prop} {a : Option Addr} {n : Nat} {l : List Int} (h : InI B w a n l) (hm : Mod M w w') (hM : ∀ i, M i → B ≤ i) : InI B w' a n l := by
  refine ⟨⟨h.1.1, fun hn => ?_⟩, h.2⟩
  exact (h.1.mod hm (fun b o hab hb => by have := h.2 hn b o hab; have := hM b hb; omega)).2 hn
theorem InI.get {B : Nat} {w : World} {b o n : Nat} {l : List Int} (h : InI B w (some ⟨b, o, none⟩) n l) (t : Nat) (ht : t < n) : w.cell? ⟨b, o + t, none⟩ = some (.int .i64 (l.getD t 0)) := by
  obtain ⟨b', o', hab, _, hc⟩ := h.1.2 (by omega)
  simp only [Option.some.injEq, Addr.mk.injEq, and_true] at hab
  obtain ⟨rfl, rfl⟩ := hab
  exact hc t ht
theorem InI.addr {B : Nat} {w : World} {a : Option Addr} {n : Nat} {l : List Int} (h : InI B w a n l) (hn : 0 < n) : ∃ b o, a = some ⟨b, o, none⟩ := by
  obtain ⟨b, o, hab, _, _⟩ := h.1.2 hn
  exact ⟨b, o, hab⟩
theorem IsRow.inI {w : World} {a : Option Addr} {len cap : Nat} {zs : List Int} (h : IsRow .i64 w a len cap zs) : InI w.heap.size w a len (zs.take len) := by
  refine ⟨h.ints.1, fun hn b o hab => ?_⟩
  obtain ⟨b', o', hab', hlt, _⟩ := h.ints.1.2 hn
  rw [hab] at hab'
  simp only [Option.some.injEq, Addr.mk.injEq, and_true] at hab'
  omega
/-- A filter into which some flows were put. -/
def fill (key : Int → Ky) (c : Cf) (N : Nat) (ws : List Nat) (L : List Int) : List Nat := L.foldl (fun ws a => insAll ws (pN c (key a) N)) ws
theorem fill_snoc (key : Int → Ky) (c : Cf) (N : Nat) (ws : List Nat) (L : List Int) (a : Int) : fill key c N ws (L ++ [a]) = insAll (fill key c N ws L) (pN c (key a) N) := by simp [fill, List.foldl_append]
theorem fill_length (key : Int → Ky) (c : Cf) (N : Nat) : ∀ (L : List Int) (ws : List Nat), (fill key c N ws L).length = ws.length
  | [], _ => rfl
  | a :: r, ws => by show (fill key c N (insAll ws (pN c (key a) N)) r).length = _; rw [fill_length key c N r, insAll_length]
theorem fill_lt (key : Int → Ky) (c : Cf) (N : Nat) : ∀ (L : List Int) (ws : List Nat), (∀ x ∈ ws, x < 18446744073709551616) → ∀ x ∈ fill key c N ws L, x < 18446744073709551616
  | [], _, h => h
  | a :: r, ws, h => fill_lt key c N r (insAll ws (pN c (key a) N)) (insAll_lt _ ws h)
theorem fill_take (key : Int → Ky) (c : Cf) (N : Nat) (ws : List Nat) (L : List Int) (t : Nat) (h : t < L.length) : insAll (fill key c N ws (L.take t)) (pN c (key (L.getD t 0)) N) = fill key c N ws (L.take (t + 1)) := by
  rw [List.take_succ_eq_append_getElem h, fill_snoc]
  congr 2
  rw [List.getD_eq_getElem?_getD, List.getElem?_eq_getElem h]; rfl
theorem bt_fill (key : Int → Ky) (c : Cf) (N : Nat) (hN : 1 ≤ N) : ∀ (L : List Int) (ws : List Nat) (p : Nat), N ≤ ws.length * 64 → bt (fill key c N ws L) p = (decide (∃ a, a ∈ L ∧ p ∈ pN c (key a) N) || bt ws p)
  | [], ws, p, _ => by simp [fill]
  | a :: r, ws, p, h => by
    have hl : ∀ q ∈ pN c (key a) N, q / 64 < ws.length := fun q hq => by have := pN_lt c (key a) N hN q hq; omega
    show bt (fill key c N (insAll ws (pN c (key a) N)) r) p = _
    rw [bt_fill key c N hN r _ p (by rw [insAll_length]; exact h), bt_insAll _ _ _ hl]
    by_cases h1 : p ∈ pN c (key a) N <;> by_cases h2 : ∃ b, b ∈ r ∧ p ∈ pN c (key b) N <;> simp [h1, h2]
theorem has_fill (key : Int → Ky) (c : Cf) (N : Nat) (hN : 1 ≤ N) (L : List Int) (ws : List Nat) (h : N ≤ ws.length * 64) (a : Int) (ha : a ∈ L) (hk : kvld (key a) = true) (hh : 1 ≤ c.hashes) : hasB (fill key c N ws L) (pN c (key a) N) = true := by
  unfold hasB
  have hne : pN c (key a) N ≠ [] := fun he => by
    have h1 : (pN c (key a) N).length = c.hashes.toNat := by unfold pN; rw [List.length_map, bitsOf_length c _ hk]
    rw [he] at h1; simp at h1; omega
  have hall : (pN c (key a) N).all (bt (fill key c N ws L)) = true := by
    rw [List.all_eq_true]
    intro p hp
    rw [bt_fill key c N hN L ws p h]
    have : ∃ b, b ∈ L ∧ p ∈ pN c (key b) N := ⟨a, ha, hp⟩
    simp [this]
  rw [hall]
  cases hq : pN c (key a) N with
  | nil => exact absurd hq hne
  | cons _ _ => rfl
theorem hasB_eq (c : Cf) (k : Ky) (N : Nat) (ws : List Nat) (hk : kvld k = true) (hh : 1 ≤ c.hashes) : hasB ws (pN c k N) = (pN c k N).all (bt ws) := by
  have h1 : (pN c k N).length = c.hashes.toNat := by unfold pN; rw [List.length_map, bitsOf_length c k hk]
  unfold hasB
  cases hq : pN c k N with
  | nil => rw [hq] at h1; simp at h1; omega
  | cons _ _ => simp
theorem bt_zero (n p : Nat) : bt (List.replicate n 0) p = false := by
  unfold bt
  have : (List.replicate n 0).getD (p / 64) 0 = 0 := by
    rw [List.getD_eq_getElem?_getD, List.getElem?_replicate]
    split <;> rfl
  rw [this, Nat.zero_testBit]
theorem has_zero (c : Cf) (k : Ky) (N n : Nat) : hasB (List.replicate n 0) (pN c k N) = false := by
  unfold hasB
  cases pN c k N with
  | nil => rfl
  | cons p r => simp [bt_zero]
theorem cnt_zero : ∀ n : Nat, cntW (List.replicate n 0) = 0
  | 0 => rfl
  | n + 1 => by
    have := cnt_zero n
    unfold cntW at *
    rw [List.replicate_succ, List.map_cons, List.sum_cons, this]
    rfl
theorem ones_zero (n N : Nat) : onesTo (List.replicate n 0) N = [] := by
  unfold onesTo
  rw [List.filter_eq_nil_iff]
  intro p _
  rw [bt_zero]; simp
def kyZ : Ky := ⟨0, adr0 false, adr0 false, 0, 0, by omega, by omega, by omega⟩
attribute [local go_sem ↓] exec_bldK
theorem build40z (w : World) : bldX Try.prog 40 #[] w = .ok (.value (.agg (kc kyZ))) w := bldX_of w (by kernel_rfl)
theorem pN_zero (c : Cf) (N : Nat) : pN c kyZ N = [] := by
  unfold pN bitsOf
  rw [show kvld kyZ = false from by kernel_rfl]; rfl
def akF (a : Int) : Ky := akey a false false
end Go.Proofs.Ytjjadakjkkmjgaa
