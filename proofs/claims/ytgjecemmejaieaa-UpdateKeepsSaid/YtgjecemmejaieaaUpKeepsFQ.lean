/-
  UpdateKeeps: its arguments.
-/
import Derived.Test.YtgjecemmejaieaaUpKeepsQ
import Derived.Test.YtgjecemmejaieaaFlatQ
namespace Go.Proofs.Ytgjecemmejaieaa
open Go.RowKit
set_option maxRecDepth 100000 in
set_option maxHeartbeats 4000000 in
theorem ukeeps_out (al aa : Option Addr) (nl cl na ca : Nat) (w : World) (hn : 30 < nl ∨ 80 < na) :
    Calls Try.prog 3 #[.slice al nl cl, .slice aa na ca] w fun e w' => e = .returned (.bool true) ∧ Below w.heap.size w w' := by
  have hc : (decide ((30 : Int) < (nl : Int)) = true ∧ decide (30 < nl) = true) ∨ (decide ((30 : Int) < (nl : Int)) = false ∧ decide (30 < nl) = false ∧ decide ((80 : Int) < (na : Int)) = true ∧ decide (80 < na) = true) := by
    simp only [decide_eq_true_eq, decide_eq_false_iff_not]
    omega
  rcases hc with ⟨h1, h2⟩ | ⟨h1, h2, h3, h4⟩ <;>
  · clear hn
    go_enter Try.func3, Try.ntmps3
    go_wp2_with fail
    refine (uawake_any _).mono ?_
    rintro e w1 ⟨rfl, hb⟩
    have HB := Lib.hid hb
    clear hb
    go_wp2_with fail
    go_ret
    exact ⟨rfl, HB.out⟩
def a2Ks : List Pl := [.int .i64, .int .i64]
def ivU : Value → Int
  | .int _ n => n
  | _ => 0
theorem flat_a2 {w : World} {a : Option Addr} {len cap : Nat} (h : IsFlat a2Ks w a len cap) : ∃ A : List (Int × Int), Rd 2 e2 w a len A := by
  obtain ⟨A, hr, hm⟩ := h.rd (enc := e2) (k := 2) (fun g => (ivU (g 0), ivU (g 1))) rfl (fun g hg j hj => by
    obtain ⟨n0, h0, _⟩ := hg 0 (.int .i64) rfl
    obtain ⟨n1, h1, _⟩ := hg 1 (.int .i64) rfl
    have : j = 0 ∨ j = 1 := by simp [a2Ks] at hj; omega
    rcases this with rfl | rfl <;> simp [e2, h0, h1, ivU])
  exact ⟨A, hr⟩
theorem ukeeps_law (al : Option Addr) (nl cl : Nat) (z : List Int) (aa : Option Addr) (na ca : Nat) (w : World) (h1 : IsRow .i64 w al nl cl z) (h2 : IsFlat a2Ks w aa na ca) :
    Calls Try.prog 3 #[.slice al nl cl, .slice aa na ca] w fun e w' => e = .returned (.bool true) ∧ Below w.heap.size w w' := by
  obtain ⟨i1, _, _⟩ := h1.ints
  obtain ⟨A, hA⟩ := flat_a2 h2
  by_cases h : 30 < nl ∨ 80 < na
  · exact ukeeps_out al aa nl cl na ca w h
  · exact ukeeps_any al aa nl cl na ca _ A w i1 hA (by omega) (by omega)
end Go.Proofs.Ytgjecemmejaieaa
