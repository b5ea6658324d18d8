/-
  Configurations and flows that come in as arguments: their cells, read.
-/
import Derived.Test.YthfgccibiajneaaFlat
import Derived.Test.YthfgccibiajneaaFamRows
namespace Go.Proofs.Ythfgccibiajneaa
open Go.RowKit
/-- Cells of these kinds. -/
def FitsL : List Pl → List Value → Prop
  | [], [] => True
  | k :: ks, v :: vs => okPl k v ∧ FitsL ks vs
  | _, _ => False
theorem fitsL_of : ∀ (ks : List Pl) (L : List Value), L.length = ks.length → (∀ (j : Nat) (k : Pl), ks[j]? = some k → ∃ v, L[j]? = some v ∧ okPl k v) → FitsL ks L
  | [], [], _, _ => trivial
  | [], _ :: _, h, _ => by simp at h
  | _ :: _, [], h, _ => by simp at h
  | k :: ks, v :: vs, h, hp => by
    refine ⟨?_, fitsL_of ks vs (by simpa using h) fun j k' hj => ?_⟩
    · obtain ⟨v', h1, h2⟩ := hp 0 k rfl
      simp only [List.getElem?_cons_zero, Option.some.injEq] at h1
      subst h1; exact h2
    · obtain ⟨v', h1, h2⟩ := hp (j + 1) k' (by rw [List.getElem?_cons_succ]; exact hj)
      rw [List.getElem?_cons_succ] at h1
      exact ⟨v', h1, h2⟩
theorem FitsL.cons {k : Pl} {ks : List Pl} : ∀ {L : List Value}, FitsL (k :: ks) L → ∃ v r, L = v :: r ∧ okPl k v ∧ FitsL ks r
  | [], h => h.elim
  | v :: r, h => ⟨v, r, rfl, h.1, h.2⟩
theorem FitsL.nil : ∀ {L : List Value}, FitsL [] L → L = []
  | [], _ => rfl
  | _ :: _, h => h.elim
theorem FitsL.app {b : List Pl} : ∀ {a : List Pl} {L : List Value}, FitsL (a ++ b) L → ∃ L1 L2, L = L1 ++ L2 ∧ FitsL a L1 ∧ FitsL b L2
  | [], L, h => ⟨[], L, rfl, trivial, h⟩
  | k :: a, L, h => by
    obtain ⟨v, r, rfl, h1, h2⟩ := FitsL.cons (ks := a ++ b) h
    obtain ⟨L1, L2, rfl, h3, h4⟩ := FitsL.app h2
    exact ⟨v :: L1, L2, rfl, ⟨h1, h3⟩, h4⟩
theorem wf_u8 {n : Int} (h : (Lit.int .u8 n).wf = true) : 0 ≤ n ∧ n < 256 := by
  simp [Lit.wf, IntKind.min, IntKind.max, IntKind.signed, IntKind.bits] at h
  omega
theorem wf_u16 {n : Int} (h : (Lit.int .u16 n).wf = true) : 0 ≤ n ∧ n < 65536 := by
  simp [Lit.wf, IntKind.min, IntKind.max, IntKind.signed, IntKind.bits] at h
  omega
theorem wf_u32 {n : Int} (h : (Lit.int .u32 n).wf = true) : 0 ≤ n ∧ n < 4294967296 := by
  simp [Lit.wf, IntKind.min, IntKind.max, IntKind.signed, IntKind.bits] at h
  omega
theorem fits_u8s : ∀ (m : Nat) {L : List Value}, FitsL (List.replicate m (.int .u8)) L → ∃ b : List Nat, b.length = m ∧ (∀ x ∈ b, x < 256) ∧ L = u8s b
  | 0, L, h => ⟨[], rfl, by simp, FitsL.nil h⟩
  | m + 1, L, h => by
    rw [List.replicate_succ] at h
    obtain ⟨v, r, rfl, ⟨n, rfl, hw⟩, h2⟩ := FitsL.cons h
    obtain ⟨b, h3, h4, rfl⟩ := fits_u8s m h2
    obtain ⟨h5, h6⟩ := wf_u8 hw
    obtain ⟨q, rfl⟩ := Int.eq_ofNat_of_zero_le h5
    refine ⟨q :: b, by simp [h3], ?_, rfl⟩
    intro x hx
    rcases List.mem_cons.1 hx with rfl | hx
    · omega
    · exact h4 x hx
def adrKs : List Pl := .bool :: List.replicate 16 (.int .u8)
def keyKs : List Pl := .int .u8 :: (adrKs ++ (adrKs ++ [.int .u16, .int .u16]))
def cfgKs : List Pl := .int .i64 :: .int .i64 :: .int .i64 :: .int .i64 :: .int .i64 :: .int .i64 :: .int .i64 :: .int .i64 :: .int .i64 :: .int .i64 :: .int .i64 :: .int .i64 :: .bool :: (adrKs ++ (adrKs ++ [.int .u32]))
theorem fits_adr {L : List Value} (h : FitsL adrKs L) : ∃ a : Adr, L = a.l := by
  obtain ⟨v, r, rfl, ⟨b6, rfl⟩, h2⟩ := FitsL.cons h
  obtain ⟨b, h3, h4, rfl⟩ := fits_u8s 16 h2
  exact ⟨⟨b6, b, h3, h4⟩, rfl⟩
theorem fits_key {L : List Value} (h : FitsL keyKs L) : ∃ k : Ky, L = k.l := by
  obtain ⟨_, r, rfl, ⟨p, rfl, hp⟩, g1⟩ := FitsL.cons h
  obtain ⟨L1, L2, rfl, h1, g2⟩ := FitsL.app g1
  obtain ⟨L3, L4, rfl, h3, g3⟩ := FitsL.app g2
  obtain ⟨_, r, rfl, ⟨sp, rfl, hs⟩, g4⟩ := FitsL.cons g3
  obtain ⟨_, r, rfl, ⟨dp, rfl, hd⟩, g5⟩ := FitsL.cons g4
  obtain rfl := FitsL.nil g5
  obtain ⟨a, rfl⟩ := fits_adr h1
  obtain ⟨b, rfl⟩ := fits_adr h3
  obtain ⟨p0, p1⟩ := wf_u8 hp
  obtain ⟨s0, s1⟩ := wf_u16 hs
  obtain ⟨d0, d1⟩ := wf_u16 hd
  obtain ⟨p, rfl⟩ := Int.eq_ofNat_of_zero_le p0
  obtain ⟨sp, rfl⟩ := Int.eq_ofNat_of_zero_le s0
  obtain ⟨dp, rfl⟩ := Int.eq_ofNat_of_zero_le d0
  exact ⟨⟨p, a, b, sp, dp, by omega, by omega, by omega⟩, rfl⟩
theorem fits_cfg {L : List Value} (h : FitsL cfgKs L) : ∃ c : Cf, L = c.l := by
  obtain ⟨_, r, rfl, ⟨x0, rfl, _⟩, g1⟩ := FitsL.cons h
  obtain ⟨_, r, rfl, ⟨x1, rfl, _⟩, g2⟩ := FitsL.cons g1
  obtain ⟨_, r, rfl, ⟨x2, rfl, _⟩, g3⟩ := FitsL.cons g2
  obtain ⟨_, r, rfl, ⟨x3, rfl, _⟩, g4⟩ := FitsL.cons g3
  obtain ⟨_, r, rfl, ⟨x4, rfl, _⟩, g5⟩ := FitsL.cons g4
  obtain ⟨_, r, rfl, ⟨x5, rfl, _⟩, g6⟩ := FitsL.cons g5
  obtain ⟨_, r, rfl, ⟨x6, rfl, _⟩, g7⟩ := FitsL.cons g6
  obtain ⟨_, r, rfl, ⟨x7, rfl, _⟩, g8⟩ := FitsL.cons g7
  obtain ⟨_, r, rfl, ⟨x8, rfl, _⟩, g9⟩ := FitsL.cons g8
  obtain ⟨_, r, rfl, ⟨x9, rfl, _⟩, g10⟩ := FitsL.cons g9
  obtain ⟨_, r, rfl, ⟨x10, rfl, _⟩, g11⟩ := FitsL.cons g10
  obtain ⟨_, r, rfl, ⟨x11, rfl, _⟩, g12⟩ := FitsL.cons g11
  obtain ⟨_, r, rfl, ⟨x12, rfl⟩, g13⟩ := FitsL.cons g12
  obtain ⟨L1, L2, rfl, h1, g14⟩ := FitsL.app g13
  obtain ⟨L3, L4, rfl, h3, g15⟩ := FitsL.app g14
  obtain ⟨_, r, rfl, ⟨sd, rfl, hs⟩, g16⟩ := FitsL.cons g15
  obtain rfl := FitsL.nil g16
  obtain ⟨a, rfl⟩ := fits_adr h1
  obtain ⟨b, rfl⟩ := fits_adr h3
  obtain ⟨s0, s1⟩ := wf_u32 hs
  obtain ⟨sd, rfl⟩ := Int.eq_ofNat_of_zero_le s0
  exact ⟨⟨x0, x1, x2, x3, x4, x5, x6, x7, x8, x9, x10, x11, x12, a, b, sd, by omega⟩, rfl⟩
/-- An aggregate of these kinds. -/
def FlatA (ks : List Pl) (cs : Array Value) : Prop := cs.size = ks.length ∧ ∀ (j : Nat) (k : Pl), ks[j]? = some k → ∃ v, cs.toList[j]? = some v ∧ okPl k v
theorem flat_key {cs : Array Value} (h : FlatA keyKs cs) : ∃ k : Ky, cs = kc k := by
  obtain ⟨k, hk⟩ := fits_key (fitsL_of _ cs.toList (by rw [Array.length_toList]; exact h.1) h.2)
  exact ⟨k, Array.toList_inj.1 (by rw [hk, kc])⟩
theorem flat_cfg {cs : Array Value} (h : FlatA cfgKs cs) : ∃ c : Cf, cs = cc c := by
  obtain ⟨c, hc⟩ := fits_cfg (fitsL_of _ cs.toList (by rw [Array.length_toList]; exact h.1) h.2)
  exact ⟨c, Array.toList_inj.1 (by rw [hc, cc])⟩
def cfg0 : Cf := ⟨0, 0, 0, 0, 0, 0, 0, 0, 0, 0, 0, 0, false, adr0 false, adr0 false, 0, by omega⟩
def key0 : Ky := ⟨0, adr0 false, adr0 false, 0, 0, by omega, by omega, by omega⟩
end Go.Proofs.Ythfgccibiajneaa
