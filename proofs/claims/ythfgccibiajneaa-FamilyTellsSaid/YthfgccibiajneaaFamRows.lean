/-
  Slices of integers that come in; a small configuration may be.
-/
import Derived.Test.YthfgccibiajneaaFamAwake
namespace Go.Proofs.Ythfgccibiajneaa
open Go.RowKit
/-- What a walk is told of a slice of integers that came in: nil, or a row of 'cap' cells, the numbers 'zs'. -/
def IsRow (k : IntKind) (w : World) (a : Option Addr) (len cap : Nat) (zs : List Int) : Prop :=
  (a = none ∧ len = 0 ∧ cap = 0 ∧ zs = []) ∨
  ∃ x, a = some x ∧ len ≤ cap ∧ cap ≤ maxLen ∧ zs.length = cap ∧ (∀ i, i < zs.length → w.cell? (x.add i) = some (.int k (zs.getD i 0))) ∧ ∀ n ∈ zs, (Lit.int k n).wf = true
theorem cell_spot {w : World} {a : Addr} {v : Value} (h : w.cell? a = some v) : a.spot = none ∧ a.block < w.heap.size := by
  refine ⟨?_, World.block_lt_of_cell? _ _ h⟩
  unfold World.cell? at h
  split at h
  · split at h
    · cases h
    · rename_i hs; simpa using hs
  · cases h
theorem IsRow.ints {w : World} {a : Option Addr} {len cap : Nat} {zs : List Int} (h : IsRow .i64 w a len cap zs) : Ints w a len (zs.take len) ∧ len ≤ maxLen ∧ ∀ n ∈ zs.take len, (Lit.int .i64 n).wf = true := by
  rcases h with ⟨rfl, rfl, rfl, rfl⟩ | ⟨x, rfl, h1, h2, h3, h4, h5⟩
  · exact ⟨⟨rfl, fun h => by omega⟩, by unfold maxLen; omega, fun n hn => by simp at hn⟩
  · refine ⟨⟨by simp; omega, fun hpos => ?_⟩, by omega, fun n hn => h5 n (List.mem_of_mem_take hn)⟩
    have h0 := h4 0 (by omega)
    rw [show x.add 0 = x from by simp [Addr.add]] at h0
    obtain ⟨hs, hb⟩ := cell_spot h0
    obtain ⟨b, o, s⟩ := x
    simp only at hs hb
    subst hs
    refine ⟨b, o, rfl, hb, fun i hi => ?_⟩
    have := h4 i (by omega)
    have hadd : (⟨b, o, none⟩ : Addr).add i = ⟨b, o + i, none⟩ := by unfold Addr.add; split <;> simp_all
    rw [hadd] at this
    rw [this]
    simp [List.getD_eq_getElem?_getD, hi]
theorem pow_fact (k x : Nat) (hk : k = 2 ∨ k = 8) (hx : x < 6) : (k : Int) ≤ (k : Int) * 2 ^ x ∧ (k : Int) * 2 ^ x ≤ (k : Int) * 32 ∧ (bits .and .i64 ((k : Int) * 2 ^ x) (wrap64 ((k : Int) * 2 ^ x - 1)) == 0) = true := by
  have : x = 0 ∨ x = 1 ∨ x = 2 ∨ x = 3 ∨ x = 4 ∨ x = 5 := by omega
  rcases hk with rfl | rfl <;> rcases this with rfl | rfl | rfl | rfl | rfl | rfl <;> exact ⟨by decide, by decide, by kernel_rfl⟩
theorem wi_of {n low high : Int} (h1 : low ≤ n) (h2 : n ≤ high) : wi n low high = true := wi_iff.2 ⟨h1, h2⟩
/-- What a configuration's numbers are, when it may be. -/
structure Fits (c : Cf) : Prop where
  st : 1 ≤ c.stages ∧ c.stages ≤ 4
  sz : 2 ≤ c.size ∧ c.size ≤ 1024
  dg : 1 ≤ c.digest ∧ c.digest ≤ 16
  bl : 8 ≤ c.bloom ∧ c.bloom ≤ 65536
  ha : 1 ≤ c.hashes ∧ c.hashes ≤ 4
theorem fits_of {c : Cf} (h : cok c = true) : Fits c := by
  simp only [cok, sizesOk, pw, Bool.and_eq_true, wi_iff] at h
  obtain ⟨⟨⟨⟨⟨⟨⟨h1, h2⟩, h3⟩, h4⟩, h5⟩, _⟩, _⟩, _⟩ := h
  exact ⟨h1, h2.1, h3, h4.1, h5⟩
theorem cok_config (l : List Int) : cok (config l) = true := by
  have b0 := atOf_bounds l 0 4 (by omega)
  have b1 := atOf_bounds l 1 6 (by omega)
  have b2 := atOf_bounds l 2 16 (by omega)
  have b3 := atOf_bounds l 3 6 (by omega)
  have b4 := atOf_bounds l 4 4 (by omega)
  have b5 := atOf_bounds l 5 16 (by omega)
  have b6 := atOf_bounds l 6 5 (by omega)
  have b7 := atOf_bounds l 7 12 (by omega)
  have b8 := atOf_bounds l 8 20 (by omega)
  have b9 := atOf_bounds l 9 12 (by omega)
  have b10 := atOf_bounds l 10 5 (by omega)
  have b11 := atOf_bounds l 11 3 (by omega)
  have p1 := pow_fact 2 (atOf l 1 6).toNat (by omega) (by omega)
  have p3 := pow_fact 8 (atOf l 3 6).toNat (by omega) (by omega)
  have ho : vld (adr0 false) = true := by kernel_rfl
  have ho6 : vld (adr0 true) = true := by kernel_rfl
  simp only [cok, sizesOk, poolsOk, timesOk, ownsOk, pw, config, cfgOf, ho, ho6, Bool.and_eq_true, wi_iff]
  refine ⟨⟨⟨⟨⟨⟨⟨?_, ?_, ?_⟩, ?_⟩, ?_, ?_⟩, ?_⟩, ⟨⟨?_, ?_⟩, ?_⟩, ?_⟩, ⟨?_, ?_⟩, ?_⟩, ?_⟩
  case refine_3 => exact p1.2.2
  case refine_6 => exact p3.2.2
  case refine_2 => have := p1.1; have := p1.2.1; constructor <;> omega
  case refine_5 => have := p3.1; have := p3.2.1; constructor <;> omega
  case refine_15 => simp
  all_goals omega
end Go.Proofs.Ythfgccibiajneaa
