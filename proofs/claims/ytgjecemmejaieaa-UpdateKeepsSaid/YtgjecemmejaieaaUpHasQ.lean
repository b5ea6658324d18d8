/-
  law 22's has.
-/
import Derived.Test.YtgjecemmejaieaaBav
namespace Go.Proofs.Ytgjecemmejaieaa
open Go.RowKit Go.Shelf
set_option maxRecDepth 100000 in
set_option maxHeartbeats 4000000 in
theorem uhas_any (a : Option Addr) (n c : Nat) (L : List Int) (x : Int) (w : World) (h : Rd 1 ei w a n L) (hn : n ≤ 100000) : Calls Try.prog 13 #[.slice a n c, .int .i64 x] w fun e w' => e = .returned (.bool (L.contains x)) ∧ w' = w := by
  have HL := Lib.hid h
  have HX := Lib.hid (show L.contains x = decide (∃ j : Nat, j < n ∧ L[j]? = some x) by
    rw [Bool.eq_iff_iff, List.contains_iff_mem, decide_eq_true_iff, List.mem_iff_getElem?]
    constructor
    · rintro ⟨j, hj⟩
      exact ⟨j, by have := (List.getElem?_eq_some_iff.1 hj).1; have := h.1; omega, hj⟩
    · rintro ⟨j, _, hj⟩
      exact ⟨j, hj⟩)
  generalize L.contains x = R at *
  clear h
  go_enter Try.func13, Try.ntmps13
  go_wp2_with fail
  go_loopw [5] (fun s5 wx => ∃ j : Nat, s5 = .int .i64 (j : Nat) ∧ j ≤ n ∧ (∀ i, i < j → L[i]? ≠ some x) ∧ wx = w) (fun s5 _ => n - (intOf s5).toNat)
  case atStart => exact ⟨0, rfl, Nat.zero_le _, fun i hi => absurd hi (by omega), rfl⟩
  case round =>
    obtain ⟨j, rfl, hj, hno, rfl⟩ := hrel
    have HNO := Lib.hid hno
    clear hno
    by_cases hlt : j < n
    · have hltz : (j : Int) < (n : Int) := by omega
      have hltd : decide (j < n) = true := by simpa using hlt
      obtain ⟨b, o, hab, hb, hc⟩ := HL.out.2 (by omega)
      obtain ⟨y, hy⟩ : ∃ y, L[j]? = some y := ⟨_, List.getElem?_eq_getElem (by have := HL.out.1; omega)⟩
      have hcell := hc j y hy 0 (by omega)
      rw [Nat.mul_one, Nat.add_zero] at hcell
      have hc2 : wr.cell? ⟨b, o + j, none⟩ = some (.int .i64 y) := hcell
      have HY := Lib.hid hy
      subst hab
      clear hc hcell hy
      have hwj : IntKind.i64.wrap ((j : Int) + 1) = ((j + 1 : Nat) : Int) ∨ True := .inr trivial
      clear hwj
      by_cases he : y = x
      · have heq : (y == x) = true := by simpa using he
        have HR := Lib.hid (show R = true by rw [HX.out, decide_eq_true]; exact ⟨j, hlt, he ▸ HY.out⟩)
        clear he
        go_wp2_with fail
        go_ret
        exact ⟨by rw [HR.out]; rfl, rfl⟩
      · have heq : (y == x) = false := by simpa using he
        have HR := Lib.hid (show ∀ i, i < j + 1 → L[i]? ≠ some x from fun i hi e => by
          by_cases h : i < j
          · exact HNO.out i h e
          · have : i = j := by omega
            subst this
            rw [HY.out] at e
            exact he (Option.some.inj e))
        clear he
        go_wp2_with fail
        go_roundw
        case rel => exact ⟨j + 1, by go_num, by omega, HR.out, by trivial⟩
        case measure => simp [intOf]; omega
    · have hltz : ¬ (j : Int) < (n : Int) := by omega
      have hltd : decide (j < n) = false := by simpa using hlt
      have HR := Lib.hid (show R = false by
        rw [HX.out, decide_eq_false]
        rintro ⟨i, hi, hh⟩
        exact HNO.out i (by omega) hh)
      clear hlt
      go_wp2_with fail
      go_ret
      exact ⟨by rw [HR.out]; rfl, rfl⟩
end Go.Proofs.Ytgjecemmejaieaa
