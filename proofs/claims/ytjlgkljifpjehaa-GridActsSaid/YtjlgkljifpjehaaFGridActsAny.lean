/-
  GridActs: whatever the arguments.
-/
import Derived.Test.YtjlgkljifpjehaaFGridActs
namespace Go.Proofs.Ytjlgkljifpjehaa
open Go.RowKit Go.Shelf
namespace Gi
set_option maxRecDepth 100000 in
set_option maxHeartbeats 8000000 in
theorem acts_any (st sz : Int) (a2 : Option Addr) (len cap : Nat) (w : World) (_ : (Lit.int .i64 st).wf = true) (_ : (Lit.int .i64 sz).wf = true) (hI : IsFlat actKs w a2 len cap) :
    Calls Try.prog 4 #[.int .i64 st, .int .i64 sz, .slice a2 len cap] w fun e w' => e = .returned (.bool true) ∧ Below w.heap.size w w' := by
  have hcm := hI.2.1
  unfold maxLen at hcm
  have hcl := hI.1
  by_cases hb : 1 ≤ st ∧ st ≤ 4 ∧ 1 ≤ sz ∧ sz ≤ 1024 ∧ len ≤ 60
  · obtain ⟨b1, b2, b3, b4, b5⟩ := hb
    obtain ⟨a, rfl⟩ : ∃ a : Nat, st = a := ⟨st.toNat, by omega⟩
    obtain ⟨b, rfl⟩ : ∃ b : Nat, sz = b := ⟨sz.toNat, by omega⟩
    obtain ⟨L, hL⟩ := rd_acts hI
    exact acts_in a b (by omega) (by omega) (by omega) (by omega) a2 len cap b5 L w hL.ri
  · clear hI
    by_cases hl : 60 < len
    · clear hb
      go_enter Try.func4, Try.ntmps4
      go_wp2_with fail
      refine (awake_any _).mono ?_
      rintro e w1 ⟨rfl, hb⟩
      have HB1 := Lib.hid hb
      clear hb
      go_wp2_with fail
      go_ret
      exact ⟨rfl, HB1.out⟩
    · have hno := Lib.hid (show ¬ (1 ≤ st ∧ st ≤ 4 ∧ 1 ≤ sz ∧ sz ≤ 1024) by omega)
      have hl2 : len ≤ 60 := by omega
      have hcase : st < 1 ∨ (decide (st < 1) = false ∧ 4 < st) ∨ (decide (st < 1) = false ∧ decide (4 < st) = false ∧ sz < 1) ∨ (decide (st < 1) = false ∧ decide (4 < st) = false ∧ decide (sz < 1) = false ∧ 1024 < sz) := by
        simp only [decide_eq_false_iff_not]; omega
      clear hb hl
      rcases hcase with c1 | ⟨c1, c2⟩ | ⟨c1, c2, c3⟩ | ⟨c1, c2, c3, c4⟩ <;>
      · go_enter Try.func4, Try.ntmps4
        go_wp2_with fail
        refine (Gi.new_no st sz hno.out _).mono ?_
        rintro e w1 ⟨rfl, hb⟩
        have HB1 := Lib.hid hb
        clear hb
        go_wp2_with fail
        refine (awake_any _).mono ?_
        rintro e w2 ⟨rfl, hb⟩
        have HB2 := Lib.hid (step_below HB1.out hb)
        clear hb
        go_wp2_with fail
        go_ret
        exact ⟨rfl, HB2.out⟩
end Gi
end Go.Proofs.Ytjlgkljifpjehaa
