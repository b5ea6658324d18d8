/-
  A flow's places as a slice; the first so many.
-/
import Derived.Test.YthfgccibiajneaaFamAll
import Derived.Test.YthfgccibiajneaaFamBase
namespace Go.Proofs.Ythfgccibiajneaa
open Go.RowKit
/-- A slice of a flow's first places. -/
def Pls (w : World) (a : Option Addr) (n : Nat) (c : Cf) (k : Ky) : Prop :=
  0 < n → ∃ b, a = some ⟨b, 0, none⟩ ∧ b < w.heap.size ∧ ∀ s, s < n → w.cell? ⟨b, s * 2, none⟩ = some (.int .i64 s) ∧ w.cell? ⟨b, s * 2 + 1, none⟩ = some (.int .i64 (idx c k s))
theorem Pls.below {w w' : World} {a : Option Addr} {n : Nat} {c : Cf} {k : Ky} (h : Pls w a n c k) (hb : Below w.heap.size w w') : Pls w' a n c k := fun hn => by
  obtain ⟨b, rfl, hlt, hc⟩ := h hn
  exact ⟨b, rfl, Nat.lt_of_lt_of_le hlt hb.size, fun s hs => ⟨(hb.cell (p := ⟨b, s * 2, none⟩) hlt).trans (hc s hs).1, (hb.cell (p := ⟨b, s * 2 + 1, none⟩) hlt).trans (hc s hs).2⟩⟩
theorem Pls.drew {w : World} {a : Option Addr} {n : Nat} {c : Cf} {k : Ky} (h : Pls w a n c k) : Pls w.drew a n c k := h
theorem flat_get (c : Cf) (k : Ky) : ∀ (l : List Nat) (s : Nat), s < l.length → (l.flatMap (plCells c k))[s * 2]? = some (.int .i64 (l.getD s 0 : Nat)) ∧ (l.flatMap (plCells c k))[s * 2 + 1]? = some (.int .i64 (idx c k (l.getD s 0)))
  | [], s, h => by simp at h
  | x :: r, 0, _ => by simp [plCells]
  | x :: r, s + 1, h => by
    have := flat_get c k r s (by simpa using h)
    rw [List.flatMap_cons, show (s + 1) * 2 = s * 2 + 1 + 1 by omega, show s * 2 + 1 + 1 + 1 = (s * 2 + 1) + 1 + 1 by omega]
    simp only [plCells, List.cons_append, List.nil_append, List.getElem?_cons_succ]
    simpa [plCells] using this
theorem all_pl (gf : Nat) (c : Cf) (k : Ky) (most : Int) (N : Nat) (w : World) (h : At w gf 139 (fc c)) (hst : c.stages ≤ 4) (hsz : 1 ≤ c.size) (hN : cutN most (List.range (plN c k)) = List.range N) :
    Calls Try.prog 28 #[.pointer (some ⟨gf, 0, none⟩), .agg (kc k), .int .i64 most] w fun e w' => ∃ a q, e = .returned (.slice a N q) ∧ Pls w' a N c k ∧ Below w.heap.size w w' :=
  (all_any gf c k most w h hst hsz).mono fun e w' ⟨v, he, ho, hb⟩ => by
    rw [hN, List.length_range] at ho
    obtain ⟨h1, h2⟩ := ho
    rcases h2 with ⟨rfl, h0⟩ | ⟨g, cap, cur, rfl, h4, h5, h6, h7, h8, h9⟩
    · exact ⟨none, 0, by rw [he, h0], fun hn => by omega, hb⟩
    · refine ⟨_, cap, he, fun hn => ⟨g, rfl, (Array.getElem?_eq_some_iff.1 h5).1, fun s hs => ?_⟩, hb⟩
      have hf := flat_get c k (List.range N) s (by simpa using hs)
      have e1 : (List.range N).getD s 0 = s := by rw [List.getD_eq_getElem?_getD, List.getElem?_range hs]; rfl
      rw [e1] at hf
      have hx : ∀ j, j < N * 2 → cur[j]? = ((List.range N).flatMap (plCells c k))[j]? := fun j hj => by
        have := congrArg (fun x : List Value => x[j]?) h9
        simp only [List.getElem?_take, if_pos hj] at this
        rw [← Array.getElem?_toList, this]
      rw [cell_of_row w' g _ cur _ (0, 0) h5, cell_of_row w' g _ cur _ (0, 0) h5, hx _ (by omega), hx _ (by omega)]
      exact hf
theorem plN_yes (c : Cf) (k : Ky) (h : kvld k = true) : plN c k = c.stages.toNat := by unfold plN; rw [if_pos h]
theorem plN_no (c : Cf) (k : Ky) (h : kvld k = false) : plN c k = 0 := by unfold plN; rw [h]; rfl
end Go.Proofs.Ythfgccibiajneaa
