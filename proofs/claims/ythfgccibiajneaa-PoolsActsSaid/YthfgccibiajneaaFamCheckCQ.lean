/-
  The document's Check.
-/
import Derived.Test.YthfgccibiajneaaBas
namespace Go.Proofs.Ythfgccibiajneaa
open Go.RowKit
set_option maxRecDepth 100000 in
theorem refWithin_any (n low high : Int) (w : World) : Calls Try.prog 79 #[.int .i64 n, .int .i64 low, .int .i64 high] w fun e w' => e = .returned (.bool (wi n low high)) ∧ w' = w := by
  by_cases h1 : low ≤ n
  · by_cases h2 : n ≤ high
    · have H := Lib.hid (show wi n low high = true by simp [wi, h1, h2])
      go_enter Try.func79, Try.ntmps79
      go_wp2_with fail
      go_ret
      exact ⟨by rw [H.out]; rfl, rfl⟩
    · have H := Lib.hid (show wi n low high = false by simp [wi, h2])
      go_enter Try.func79, Try.ntmps79
      go_wp2_with fail
      go_ret
      exact ⟨by rw [H.out]; rfl, rfl⟩
  · have H := Lib.hid (show wi n low high = false by simp [wi, h1])
    have hd : decide (low ≤ n) = false := by simpa using h1
    go_enter Try.func79, Try.ntmps79
    go_wp2_with fail
    go_ret
    exact ⟨by rw [H.out]; rfl, rfl⟩

set_option maxRecDepth 100000 in
theorem refPower_any (n low high : Int) (w : World) (hl : 1 ≤ low) (hh : high ≤ 65536) : Calls Try.prog 80 #[.int .i64 n, .int .i64 low, .int .i64 high] w fun e w' => e = .returned (.bool (pw n low high)) ∧ w' = w := by
  by_cases h1 : low ≤ n
  · by_cases h2 : n ≤ high
    · have hw : wrap64 (n - 1) = n - 1 := IntWalk.wrap64_in _ ⟨by omega, by omega⟩
      have H := Lib.hid (show pw n low high = (bits .and .i64 n (n - 1) == 0) by simp [pw, wi, h1, h2, hw])
      clear hw
      go_enter Try.func80, Try.ntmps80
      go_wp2_with fail
      go_ret
      exact ⟨by rw [H.out]; rfl, rfl⟩
    · have H := Lib.hid (show pw n low high = false by simp [pw, wi, h2])
      go_enter Try.func80, Try.ntmps80
      go_wp2_with fail
      go_ret
      exact ⟨by rw [H.out]; rfl, rfl⟩
  · have H := Lib.hid (show pw n low high = false by simp [pw, wi, h1])
    have hd : decide (low ≤ n) = false := by simpa using h1
    go_enter Try.func80, Try.ntmps80
    go_wp2_with fail
    go_ret
    exact ⟨by rw [H.out]; rfl, rfl⟩

set_option maxRecDepth 100000 in
set_option maxHeartbeats 8000000 in
theorem refCheck_any (c : Cf) (w : World) : Calls Try.prog 14 #[.agg (cc c)] w fun e w' => e = .returned (.bool (cok c)) ∧ Below w.heap.size w w' := by
  cases g1 : wi c.stages 1 4
  · go_enter Try.func14, Try.ntmps14
    go_wp2_with (first
      | (go_at_call 79; refine (refWithin_any _ _ _ _).mono ?_; rintro e w' ⟨rfl, rfl⟩)
      | (go_at_call 80; refine (refPower_any _ _ _ _ (by omega) (by omega)).mono ?_; rintro e w' ⟨rfl, rfl⟩)
      | (go_at_call 81; refine (refValid_any _ _).mono ?_; rintro e w' ⟨rfl, rfl⟩))
    all_goals (go_ret; exact ⟨by rw [show cok c = false by simp [cok, sizesOk, poolsOk, timesOk, ownsOk, g1]]; rfl, by repeat (first | exact Below.refl _ _ | refine Below.alloc ?_ (by simp <;> omega) _)⟩)
  · cases g2 : pw c.size 2 1024
    · go_enter Try.func14, Try.ntmps14
      go_wp2_with (first
        | (go_at_call 79; refine (refWithin_any _ _ _ _).mono ?_; rintro e w' ⟨rfl, rfl⟩)
        | (go_at_call 80; refine (refPower_any _ _ _ _ (by omega) (by omega)).mono ?_; rintro e w' ⟨rfl, rfl⟩)
        | (go_at_call 81; refine (refValid_any _ _).mono ?_; rintro e w' ⟨rfl, rfl⟩))
      all_goals (go_ret; exact ⟨by rw [show cok c = false by simp [cok, sizesOk, poolsOk, timesOk, ownsOk, g1, g2]]; rfl, by repeat (first | exact Below.refl _ _ | refine Below.alloc ?_ (by simp <;> omega) _)⟩)
    · cases g3 : wi c.digest 1 16
      · go_enter Try.func14, Try.ntmps14
        go_wp2_with (first
          | (go_at_call 79; refine (refWithin_any _ _ _ _).mono ?_; rintro e w' ⟨rfl, rfl⟩)
          | (go_at_call 80; refine (refPower_any _ _ _ _ (by omega) (by omega)).mono ?_; rintro e w' ⟨rfl, rfl⟩)
          | (go_at_call 81; refine (refValid_any _ _).mono ?_; rintro e w' ⟨rfl, rfl⟩))
        all_goals (go_ret; exact ⟨by rw [show cok c = false by simp [cok, sizesOk, poolsOk, timesOk, ownsOk, g1, g2, g3]]; rfl, by repeat (first | exact Below.refl _ _ | refine Below.alloc ?_ (by simp <;> omega) _)⟩)
      · cases g4 : pw c.bloom 8 65536
        · go_enter Try.func14, Try.ntmps14
          go_wp2_with (first
            | (go_at_call 79; refine (refWithin_any _ _ _ _).mono ?_; rintro e w' ⟨rfl, rfl⟩)
            | (go_at_call 80; refine (refPower_any _ _ _ _ (by omega) (by omega)).mono ?_; rintro e w' ⟨rfl, rfl⟩)
            | (go_at_call 81; refine (refValid_any _ _).mono ?_; rintro e w' ⟨rfl, rfl⟩))
          all_goals (go_ret; exact ⟨by rw [show cok c = false by simp [cok, sizesOk, poolsOk, timesOk, ownsOk, g1, g2, g3, g4]]; rfl, by repeat (first | exact Below.refl _ _ | refine Below.alloc ?_ (by simp <;> omega) _)⟩)
        · cases g5 : wi c.hashes 1 4
          · go_enter Try.func14, Try.ntmps14
            go_wp2_with (first
              | (go_at_call 79; refine (refWithin_any _ _ _ _).mono ?_; rintro e w' ⟨rfl, rfl⟩)
              | (go_at_call 80; refine (refPower_any _ _ _ _ (by omega) (by omega)).mono ?_; rintro e w' ⟨rfl, rfl⟩)
              | (go_at_call 81; refine (refValid_any _ _).mono ?_; rintro e w' ⟨rfl, rfl⟩))
            all_goals (go_ret; exact ⟨by rw [show cok c = false by simp [cok, sizesOk, poolsOk, timesOk, ownsOk, g1, g2, g3, g4, g5]]; rfl, by repeat (first | exact Below.refl _ _ | refine Below.alloc ?_ (by simp <;> omega) _)⟩)
          · cases g6 : wi c.slots 1 64
            · go_enter Try.func14, Try.ntmps14
              go_wp2_with (first
                | (go_at_call 79; refine (refWithin_any _ _ _ _).mono ?_; rintro e w' ⟨rfl, rfl⟩)
                | (go_at_call 80; refine (refPower_any _ _ _ _ (by omega) (by omega)).mono ?_; rintro e w' ⟨rfl, rfl⟩)
                | (go_at_call 81; refine (refValid_any _ _).mono ?_; rintro e w' ⟨rfl, rfl⟩))
              all_goals (go_ret; exact ⟨by rw [show cok c = false by simp [cok, sizesOk, poolsOk, timesOk, ownsOk, g1, g2, g3, g4, g5, g6]]; rfl, by repeat (first | exact Below.refl _ _ | refine Below.alloc ?_ (by simp <;> omega) _)⟩)
            · cases g7 : wi c.versions 2 16
              · go_enter Try.func14, Try.ntmps14
                go_wp2_with (first
                  | (go_at_call 79; refine (refWithin_any _ _ _ _).mono ?_; rintro e w' ⟨rfl, rfl⟩)
                  | (go_at_call 80; refine (refPower_any _ _ _ _ (by omega) (by omega)).mono ?_; rintro e w' ⟨rfl, rfl⟩)
                  | (go_at_call 81; refine (refValid_any _ _).mono ?_; rintro e w' ⟨rfl, rfl⟩))
                all_goals (go_ret; exact ⟨by rw [show cok c = false by simp [cok, sizesOk, poolsOk, timesOk, ownsOk, g1, g2, g3, g4, g5, g6, g7]]; rfl, by repeat (first | exact Below.refl _ _ | refine Below.alloc ?_ (by simp <;> omega) _)⟩)
              · cases g8 : wi c.queue 1 256
                · go_enter Try.func14, Try.ntmps14
                  go_wp2_with (first
                    | (go_at_call 79; refine (refWithin_any _ _ _ _).mono ?_; rintro e w' ⟨rfl, rfl⟩)
                    | (go_at_call 80; refine (refPower_any _ _ _ _ (by omega) (by omega)).mono ?_; rintro e w' ⟨rfl, rfl⟩)
                    | (go_at_call 81; refine (refValid_any _ _).mono ?_; rintro e w' ⟨rfl, rfl⟩))
                  all_goals (go_ret; exact ⟨by rw [show cok c = false by simp [cok, sizesOk, poolsOk, timesOk, ownsOk, g1, g2, g3, g4, g5, g6, g7, g8]]; rfl, by repeat (first | exact Below.refl _ _ | refine Below.alloc ?_ (by simp <;> omega) _)⟩)
                · cases g9 : wi c.evict 1 64
                  · go_enter Try.func14, Try.ntmps14
                    go_wp2_with (first
                      | (go_at_call 79; refine (refWithin_any _ _ _ _).mono ?_; rintro e w' ⟨rfl, rfl⟩)
                      | (go_at_call 80; refine (refPower_any _ _ _ _ (by omega) (by omega)).mono ?_; rintro e w' ⟨rfl, rfl⟩)
                      | (go_at_call 81; refine (refValid_any _ _).mono ?_; rintro e w' ⟨rfl, rfl⟩))
                    all_goals (go_ret; exact ⟨by rw [show cok c = false by simp [cok, sizesOk, poolsOk, timesOk, ownsOk, g1, g2, g3, g4, g5, g6, g7, g8, g9]]; rfl, by repeat (first | exact Below.refl _ _ | refine Below.alloc ?_ (by simp <;> omega) _)⟩)
                  · cases g10 : wi c.idle 1 1000
                    · go_enter Try.func14, Try.ntmps14
                      go_wp2_with (first
                        | (go_at_call 79; refine (refWithin_any _ _ _ _).mono ?_; rintro e w' ⟨rfl, rfl⟩)
                        | (go_at_call 80; refine (refPower_any _ _ _ _ (by omega) (by omega)).mono ?_; rintro e w' ⟨rfl, rfl⟩)
                        | (go_at_call 81; refine (refValid_any _ _).mono ?_; rintro e w' ⟨rfl, rfl⟩))
                      all_goals (go_ret; exact ⟨by rw [show cok c = false by simp [cok, sizesOk, poolsOk, timesOk, ownsOk, g1, g2, g3, g4, g5, g6, g7, g8, g9, g10]]; rfl, by repeat (first | exact Below.refl _ _ | refine Below.alloc ?_ (by simp <;> omega) _)⟩)
                    · cases g11 : wi c.linger 1 1000
                      · go_enter Try.func14, Try.ntmps14
                        go_wp2_with (first
                          | (go_at_call 79; refine (refWithin_any _ _ _ _).mono ?_; rintro e w' ⟨rfl, rfl⟩)
                          | (go_at_call 80; refine (refPower_any _ _ _ _ (by omega) (by omega)).mono ?_; rintro e w' ⟨rfl, rfl⟩)
                          | (go_at_call 81; refine (refValid_any _ _).mono ?_; rintro e w' ⟨rfl, rfl⟩))
                        all_goals (go_ret; exact ⟨by rw [show cok c = false by simp [cok, sizesOk, poolsOk, timesOk, ownsOk, g1, g2, g3, g4, g5, g6, g7, g8, g9, g10, g11]]; rfl, by repeat (first | exact Below.refl _ _ | refine Below.alloc ?_ (by simp <;> omega) _)⟩)
                      · cases g12 : wi c.fails 1 10
                        · go_enter Try.func14, Try.ntmps14
                          go_wp2_with (first
                            | (go_at_call 79; refine (refWithin_any _ _ _ _).mono ?_; rintro e w' ⟨rfl, rfl⟩)
                            | (go_at_call 80; refine (refPower_any _ _ _ _ (by omega) (by omega)).mono ?_; rintro e w' ⟨rfl, rfl⟩)
                            | (go_at_call 81; refine (refValid_any _ _).mono ?_; rintro e w' ⟨rfl, rfl⟩))
                          all_goals (go_ret; exact ⟨by rw [show cok c = false by simp [cok, sizesOk, poolsOk, timesOk, ownsOk, g1, g2, g3, g4, g5, g6, g7, g8, g9, g10, g11, g12]]; rfl, by repeat (first | exact Below.refl _ _ | refine Below.alloc ?_ (by simp <;> omega) _)⟩)
                        · cases h1 : vld c.own
                          · go_enter Try.func14, Try.ntmps14
                            go_wp2_with (first
                              | (go_at_call 79; refine (refWithin_any _ _ _ _).mono ?_; rintro e w' ⟨rfl, rfl⟩)
                              | (go_at_call 80; refine (refPower_any _ _ _ _ (by omega) (by omega)).mono ?_; rintro e w' ⟨rfl, rfl⟩)
                              | (go_at_call 81; refine (refValid_any _ _).mono ?_; rintro e w' ⟨rfl, rfl⟩))
                            all_goals (go_ret; exact ⟨by rw [show cok c = false by simp [cok, sizesOk, poolsOk, timesOk, ownsOk, g1, g2, g3, g4, g5, g6, g7, g8, g9, g10, g11, g12, h1]]; rfl, by repeat (first | exact Below.refl _ _ | refine Below.alloc ?_ (by simp <;> omega) _)⟩)
                          · cases h2 : vld c.own6
                            · go_enter Try.func14, Try.ntmps14
                              go_wp2_with (first
                                | (go_at_call 79; refine (refWithin_any _ _ _ _).mono ?_; rintro e w' ⟨rfl, rfl⟩)
                                | (go_at_call 80; refine (refPower_any _ _ _ _ (by omega) (by omega)).mono ?_; rintro e w' ⟨rfl, rfl⟩)
                                | (go_at_call 81; refine (refValid_any _ _).mono ?_; rintro e w' ⟨rfl, rfl⟩))
                              all_goals (go_ret; exact ⟨by rw [show cok c = false by simp [cok, sizesOk, poolsOk, timesOk, ownsOk, g1, g2, g3, g4, g5, g6, g7, g8, g9, g10, g11, g12, h1, h2]]; rfl, by repeat (first | exact Below.refl _ _ | refine Below.alloc ?_ (by simp <;> omega) _)⟩)
                            · cases h3 : c.encap
                              · go_enter Try.func14, Try.ntmps14
                                go_wp2_with (first
                                  | (go_at_call 79; refine (refWithin_any _ _ _ _).mono ?_; rintro e w' ⟨rfl, rfl⟩)
                                  | (go_at_call 80; refine (refPower_any _ _ _ _ (by omega) (by omega)).mono ?_; rintro e w' ⟨rfl, rfl⟩)
                                  | (go_at_call 81; refine (refValid_any _ _).mono ?_; rintro e w' ⟨rfl, rfl⟩))
                                all_goals (go_ret; exact ⟨by rw [show cok c = true by simp [cok, sizesOk, poolsOk, timesOk, ownsOk, g1, g2, g3, g4, g5, g6, g7, g8, g9, g10, g11, g12, h1, h2, h3]]; rfl, by repeat (first | exact Below.refl _ _ | refine Below.alloc ?_ (by simp <;> omega) _)⟩)
                              · cases h4 : c.own.v6
                                · cases h5 : c.own6.v6
                                  · go_enter Try.func14, Try.ntmps14
                                    go_wp2_with (first
                                      | (go_at_call 79; refine (refWithin_any _ _ _ _).mono ?_; rintro e w' ⟨rfl, rfl⟩)
                                      | (go_at_call 80; refine (refPower_any _ _ _ _ (by omega) (by omega)).mono ?_; rintro e w' ⟨rfl, rfl⟩)
                                      | (go_at_call 81; refine (refValid_any _ _).mono ?_; rintro e w' ⟨rfl, rfl⟩))
                                    all_goals (go_ret; exact ⟨by rw [show cok c = false by simp [cok, sizesOk, poolsOk, timesOk, ownsOk, g1, g2, g3, g4, g5, g6, g7, g8, g9, g10, g11, g12, h1, h2, h3, h4, h5]]; rfl, by repeat (first | exact Below.refl _ _ | refine Below.alloc ?_ (by simp <;> omega) _)⟩)
                                  · go_enter Try.func14, Try.ntmps14
                                    go_wp2_with (first
                                      | (go_at_call 79; refine (refWithin_any _ _ _ _).mono ?_; rintro e w' ⟨rfl, rfl⟩)
                                      | (go_at_call 80; refine (refPower_any _ _ _ _ (by omega) (by omega)).mono ?_; rintro e w' ⟨rfl, rfl⟩)
                                      | (go_at_call 81; refine (refValid_any _ _).mono ?_; rintro e w' ⟨rfl, rfl⟩))
                                    all_goals (go_ret; exact ⟨by rw [show cok c = true by simp [cok, sizesOk, poolsOk, timesOk, ownsOk, g1, g2, g3, g4, g5, g6, g7, g8, g9, g10, g11, g12, h1, h2, h3, h4, h5]]; rfl, by repeat (first | exact Below.refl _ _ | refine Below.alloc ?_ (by simp <;> omega) _)⟩)
                                · go_enter Try.func14, Try.ntmps14
                                  go_wp2_with (first
                                    | (go_at_call 79; refine (refWithin_any _ _ _ _).mono ?_; rintro e w' ⟨rfl, rfl⟩)
                                    | (go_at_call 80; refine (refPower_any _ _ _ _ (by omega) (by omega)).mono ?_; rintro e w' ⟨rfl, rfl⟩)
                                    | (go_at_call 81; refine (refValid_any _ _).mono ?_; rintro e w' ⟨rfl, rfl⟩))
                                  all_goals (go_ret; exact ⟨by rw [show cok c = false by simp [cok, sizesOk, poolsOk, timesOk, ownsOk, g1, g2, g3, g4, g5, g6, g7, g8, g9, g10, g11, g12, h1, h2, h3, h4]]; rfl, by repeat (first | exact Below.refl _ _ | refine Below.alloc ?_ (by simp <;> omega) _)⟩)
end Go.Proofs.Ythfgccibiajneaa
