/-
  Texts in one, each behind those that it needs: FamCheckC, PoRfNew, UpDoc.
-/
import Derived.Test.YtgjecemmejaieaaBat
/-
  The document's Check.
-/
namespace Go.Proofs.Ytgjecemmejaieaa
open Go.RowKit
set_option maxRecDepth 100000 in
theorem refWithin_any (n low high : Int) (w : World) : Calls Try.prog 59 #[.int .i64 n, .int .i64 low, .int .i64 high] w fun e w' => e = .returned (.bool (wi n low high)) ∧ w' = w := by
  by_cases h1 : low ≤ n
  · by_cases h2 : n ≤ high
    · have H := Lib.hid (show wi n low high = true by simp [wi, h1, h2])
      go_enter Try.func59, Try.ntmps59
      go_wp2_with fail
      go_ret
      exact ⟨by rw [H.out]; rfl, rfl⟩
    · have H := Lib.hid (show wi n low high = false by simp [wi, h2])
      go_enter Try.func59, Try.ntmps59
      go_wp2_with fail
      go_ret
      exact ⟨by rw [H.out]; rfl, rfl⟩
  · have H := Lib.hid (show wi n low high = false by simp [wi, h1])
    have hd : decide (low ≤ n) = false := by simpa using h1
    go_enter Try.func59, Try.ntmps59
    go_wp2_with fail
    go_ret
    exact ⟨by rw [H.out]; rfl, rfl⟩

set_option maxRecDepth 100000 in
theorem refPower_any (n low high : Int) (w : World) (hl : 1 ≤ low) (hh : high ≤ 65536) : Calls Try.prog 60 #[.int .i64 n, .int .i64 low, .int .i64 high] w fun e w' => e = .returned (.bool (pw n low high)) ∧ w' = w := by
  by_cases h1 : low ≤ n
  · by_cases h2 : n ≤ high
    · have hw : wrap64 (n - 1) = n - 1 := IntWalk.wrap64_in _ ⟨by omega, by omega⟩
      have H := Lib.hid (show pw n low high = (bits .and .i64 n (n - 1) == 0) by simp [pw, wi, h1, h2, hw])
      clear hw
      go_enter Try.func60, Try.ntmps60
      go_wp2_with fail
      go_ret
      exact ⟨by rw [H.out]; rfl, rfl⟩
    · have H := Lib.hid (show pw n low high = false by simp [pw, wi, h2])
      go_enter Try.func60, Try.ntmps60
      go_wp2_with fail
      go_ret
      exact ⟨by rw [H.out]; rfl, rfl⟩
  · have H := Lib.hid (show pw n low high = false by simp [pw, wi, h1])
    have hd : decide (low ≤ n) = false := by simpa using h1
    go_enter Try.func60, Try.ntmps60
    go_wp2_with fail
    go_ret
    exact ⟨by rw [H.out]; rfl, rfl⟩

set_option maxRecDepth 100000 in
set_option maxHeartbeats 8000000 in
theorem refCheck_any (c : Cf) (w : World) : Calls Try.prog 46 #[.agg (cc c)] w fun e w' => e = .returned (.bool (cok c)) ∧ Below w.heap.size w w' := by
  cases g1 : wi c.stages 1 4
  · go_enter Try.func46, Try.ntmps46
    go_wp2_with (first
      | (go_at_call 59; refine (refWithin_any _ _ _ _).mono ?_; rintro e w' ⟨rfl, rfl⟩)
      | (go_at_call 60; refine (refPower_any _ _ _ _ (by omega) (by omega)).mono ?_; rintro e w' ⟨rfl, rfl⟩)
      | (go_at_call 61; refine (refValid_any _ _).mono ?_; rintro e w' ⟨rfl, rfl⟩))
    all_goals (go_ret; exact ⟨by rw [show cok c = false by simp [cok, sizesOk, poolsOk, timesOk, ownsOk, g1]]; rfl, by repeat (first | exact Below.refl _ _ | refine Below.alloc ?_ (by simp <;> omega) _)⟩)
  · cases g2 : pw c.size 2 1024
    · go_enter Try.func46, Try.ntmps46
      go_wp2_with (first
        | (go_at_call 59; refine (refWithin_any _ _ _ _).mono ?_; rintro e w' ⟨rfl, rfl⟩)
        | (go_at_call 60; refine (refPower_any _ _ _ _ (by omega) (by omega)).mono ?_; rintro e w' ⟨rfl, rfl⟩)
        | (go_at_call 61; refine (refValid_any _ _).mono ?_; rintro e w' ⟨rfl, rfl⟩))
      all_goals (go_ret; exact ⟨by rw [show cok c = false by simp [cok, sizesOk, poolsOk, timesOk, ownsOk, g1, g2]]; rfl, by repeat (first | exact Below.refl _ _ | refine Below.alloc ?_ (by simp <;> omega) _)⟩)
    · cases g3 : wi c.digest 1 16
      · go_enter Try.func46, Try.ntmps46
        go_wp2_with (first
          | (go_at_call 59; refine (refWithin_any _ _ _ _).mono ?_; rintro e w' ⟨rfl, rfl⟩)
          | (go_at_call 60; refine (refPower_any _ _ _ _ (by omega) (by omega)).mono ?_; rintro e w' ⟨rfl, rfl⟩)
          | (go_at_call 61; refine (refValid_any _ _).mono ?_; rintro e w' ⟨rfl, rfl⟩))
        all_goals (go_ret; exact ⟨by rw [show cok c = false by simp [cok, sizesOk, poolsOk, timesOk, ownsOk, g1, g2, g3]]; rfl, by repeat (first | exact Below.refl _ _ | refine Below.alloc ?_ (by simp <;> omega) _)⟩)
      · cases g4 : pw c.bloom 8 65536
        · go_enter Try.func46, Try.ntmps46
          go_wp2_with (first
            | (go_at_call 59; refine (refWithin_any _ _ _ _).mono ?_; rintro e w' ⟨rfl, rfl⟩)
            | (go_at_call 60; refine (refPower_any _ _ _ _ (by omega) (by omega)).mono ?_; rintro e w' ⟨rfl, rfl⟩)
            | (go_at_call 61; refine (refValid_any _ _).mono ?_; rintro e w' ⟨rfl, rfl⟩))
          all_goals (go_ret; exact ⟨by rw [show cok c = false by simp [cok, sizesOk, poolsOk, timesOk, ownsOk, g1, g2, g3, g4]]; rfl, by repeat (first | exact Below.refl _ _ | refine Below.alloc ?_ (by simp <;> omega) _)⟩)
        · cases g5 : wi c.hashes 1 4
          · go_enter Try.func46, Try.ntmps46
            go_wp2_with (first
              | (go_at_call 59; refine (refWithin_any _ _ _ _).mono ?_; rintro e w' ⟨rfl, rfl⟩)
              | (go_at_call 60; refine (refPower_any _ _ _ _ (by omega) (by omega)).mono ?_; rintro e w' ⟨rfl, rfl⟩)
              | (go_at_call 61; refine (refValid_any _ _).mono ?_; rintro e w' ⟨rfl, rfl⟩))
            all_goals (go_ret; exact ⟨by rw [show cok c = false by simp [cok, sizesOk, poolsOk, timesOk, ownsOk, g1, g2, g3, g4, g5]]; rfl, by repeat (first | exact Below.refl _ _ | refine Below.alloc ?_ (by simp <;> omega) _)⟩)
          · cases g6 : wi c.slots 1 64
            · go_enter Try.func46, Try.ntmps46
              go_wp2_with (first
                | (go_at_call 59; refine (refWithin_any _ _ _ _).mono ?_; rintro e w' ⟨rfl, rfl⟩)
                | (go_at_call 60; refine (refPower_any _ _ _ _ (by omega) (by omega)).mono ?_; rintro e w' ⟨rfl, rfl⟩)
                | (go_at_call 61; refine (refValid_any _ _).mono ?_; rintro e w' ⟨rfl, rfl⟩))
              all_goals (go_ret; exact ⟨by rw [show cok c = false by simp [cok, sizesOk, poolsOk, timesOk, ownsOk, g1, g2, g3, g4, g5, g6]]; rfl, by repeat (first | exact Below.refl _ _ | refine Below.alloc ?_ (by simp <;> omega) _)⟩)
            · cases g7 : wi c.versions 2 16
              · go_enter Try.func46, Try.ntmps46
                go_wp2_with (first
                  | (go_at_call 59; refine (refWithin_any _ _ _ _).mono ?_; rintro e w' ⟨rfl, rfl⟩)
                  | (go_at_call 60; refine (refPower_any _ _ _ _ (by omega) (by omega)).mono ?_; rintro e w' ⟨rfl, rfl⟩)
                  | (go_at_call 61; refine (refValid_any _ _).mono ?_; rintro e w' ⟨rfl, rfl⟩))
                all_goals (go_ret; exact ⟨by rw [show cok c = false by simp [cok, sizesOk, poolsOk, timesOk, ownsOk, g1, g2, g3, g4, g5, g6, g7]]; rfl, by repeat (first | exact Below.refl _ _ | refine Below.alloc ?_ (by simp <;> omega) _)⟩)
              · cases g8 : wi c.queue 1 256
                · go_enter Try.func46, Try.ntmps46
                  go_wp2_with (first
                    | (go_at_call 59; refine (refWithin_any _ _ _ _).mono ?_; rintro e w' ⟨rfl, rfl⟩)
                    | (go_at_call 60; refine (refPower_any _ _ _ _ (by omega) (by omega)).mono ?_; rintro e w' ⟨rfl, rfl⟩)
                    | (go_at_call 61; refine (refValid_any _ _).mono ?_; rintro e w' ⟨rfl, rfl⟩))
                  all_goals (go_ret; exact ⟨by rw [show cok c = false by simp [cok, sizesOk, poolsOk, timesOk, ownsOk, g1, g2, g3, g4, g5, g6, g7, g8]]; rfl, by repeat (first | exact Below.refl _ _ | refine Below.alloc ?_ (by simp <;> omega) _)⟩)
                · cases g9 : wi c.evict 1 64
                  · go_enter Try.func46, Try.ntmps46
                    go_wp2_with (first
                      | (go_at_call 59; refine (refWithin_any _ _ _ _).mono ?_; rintro e w' ⟨rfl, rfl⟩)
                      | (go_at_call 60; refine (refPower_any _ _ _ _ (by omega) (by omega)).mono ?_; rintro e w' ⟨rfl, rfl⟩)
                      | (go_at_call 61; refine (refValid_any _ _).mono ?_; rintro e w' ⟨rfl, rfl⟩))
                    all_goals (go_ret; exact ⟨by rw [show cok c = false by simp [cok, sizesOk, poolsOk, timesOk, ownsOk, g1, g2, g3, g4, g5, g6, g7, g8, g9]]; rfl, by repeat (first | exact Below.refl _ _ | refine Below.alloc ?_ (by simp <;> omega) _)⟩)
                  · cases g10 : wi c.idle 1 1000
                    · go_enter Try.func46, Try.ntmps46
                      go_wp2_with (first
                        | (go_at_call 59; refine (refWithin_any _ _ _ _).mono ?_; rintro e w' ⟨rfl, rfl⟩)
                        | (go_at_call 60; refine (refPower_any _ _ _ _ (by omega) (by omega)).mono ?_; rintro e w' ⟨rfl, rfl⟩)
                        | (go_at_call 61; refine (refValid_any _ _).mono ?_; rintro e w' ⟨rfl, rfl⟩))
                      all_goals (go_ret; exact ⟨by rw [show cok c = false by simp [cok, sizesOk, poolsOk, timesOk, ownsOk, g1, g2, g3, g4, g5, g6, g7, g8, g9, g10]]; rfl, by repeat (first | exact Below.refl _ _ | refine Below.alloc ?_ (by simp <;> omega) _)⟩)
                    · cases g11 : wi c.linger 1 1000
                      · go_enter Try.func46, Try.ntmps46
                        go_wp2_with (first
                          | (go_at_call 59; refine (refWithin_any _ _ _ _).mono ?_; rintro e w' ⟨rfl, rfl⟩)
                          | (go_at_call 60; refine (refPower_any _ _ _ _ (by omega) (by omega)).mono ?_; rintro e w' ⟨rfl, rfl⟩)
                          | (go_at_call 61; refine (refValid_any _ _).mono ?_; rintro e w' ⟨rfl, rfl⟩))
                        all_goals (go_ret; exact ⟨by rw [show cok c = false by simp [cok, sizesOk, poolsOk, timesOk, ownsOk, g1, g2, g3, g4, g5, g6, g7, g8, g9, g10, g11]]; rfl, by repeat (first | exact Below.refl _ _ | refine Below.alloc ?_ (by simp <;> omega) _)⟩)
                      · cases g12 : wi c.fails 1 10
                        · go_enter Try.func46, Try.ntmps46
                          go_wp2_with (first
                            | (go_at_call 59; refine (refWithin_any _ _ _ _).mono ?_; rintro e w' ⟨rfl, rfl⟩)
                            | (go_at_call 60; refine (refPower_any _ _ _ _ (by omega) (by omega)).mono ?_; rintro e w' ⟨rfl, rfl⟩)
                            | (go_at_call 61; refine (refValid_any _ _).mono ?_; rintro e w' ⟨rfl, rfl⟩))
                          all_goals (go_ret; exact ⟨by rw [show cok c = false by simp [cok, sizesOk, poolsOk, timesOk, ownsOk, g1, g2, g3, g4, g5, g6, g7, g8, g9, g10, g11, g12]]; rfl, by repeat (first | exact Below.refl _ _ | refine Below.alloc ?_ (by simp <;> omega) _)⟩)
                        · cases h1 : vld c.own
                          · go_enter Try.func46, Try.ntmps46
                            go_wp2_with (first
                              | (go_at_call 59; refine (refWithin_any _ _ _ _).mono ?_; rintro e w' ⟨rfl, rfl⟩)
                              | (go_at_call 60; refine (refPower_any _ _ _ _ (by omega) (by omega)).mono ?_; rintro e w' ⟨rfl, rfl⟩)
                              | (go_at_call 61; refine (refValid_any _ _).mono ?_; rintro e w' ⟨rfl, rfl⟩))
                            all_goals (go_ret; exact ⟨by rw [show cok c = false by simp [cok, sizesOk, poolsOk, timesOk, ownsOk, g1, g2, g3, g4, g5, g6, g7, g8, g9, g10, g11, g12, h1]]; rfl, by repeat (first | exact Below.refl _ _ | refine Below.alloc ?_ (by simp <;> omega) _)⟩)
                          · cases h2 : vld c.own6
                            · go_enter Try.func46, Try.ntmps46
                              go_wp2_with (first
                                | (go_at_call 59; refine (refWithin_any _ _ _ _).mono ?_; rintro e w' ⟨rfl, rfl⟩)
                                | (go_at_call 60; refine (refPower_any _ _ _ _ (by omega) (by omega)).mono ?_; rintro e w' ⟨rfl, rfl⟩)
                                | (go_at_call 61; refine (refValid_any _ _).mono ?_; rintro e w' ⟨rfl, rfl⟩))
                              all_goals (go_ret; exact ⟨by rw [show cok c = false by simp [cok, sizesOk, poolsOk, timesOk, ownsOk, g1, g2, g3, g4, g5, g6, g7, g8, g9, g10, g11, g12, h1, h2]]; rfl, by repeat (first | exact Below.refl _ _ | refine Below.alloc ?_ (by simp <;> omega) _)⟩)
                            · cases h3 : c.encap
                              · go_enter Try.func46, Try.ntmps46
                                go_wp2_with (first
                                  | (go_at_call 59; refine (refWithin_any _ _ _ _).mono ?_; rintro e w' ⟨rfl, rfl⟩)
                                  | (go_at_call 60; refine (refPower_any _ _ _ _ (by omega) (by omega)).mono ?_; rintro e w' ⟨rfl, rfl⟩)
                                  | (go_at_call 61; refine (refValid_any _ _).mono ?_; rintro e w' ⟨rfl, rfl⟩))
                                all_goals (go_ret; exact ⟨by rw [show cok c = true by simp [cok, sizesOk, poolsOk, timesOk, ownsOk, g1, g2, g3, g4, g5, g6, g7, g8, g9, g10, g11, g12, h1, h2, h3]]; rfl, by repeat (first | exact Below.refl _ _ | refine Below.alloc ?_ (by simp <;> omega) _)⟩)
                              · cases h4 : c.own.v6
                                · cases h5 : c.own6.v6
                                  · go_enter Try.func46, Try.ntmps46
                                    go_wp2_with (first
                                      | (go_at_call 59; refine (refWithin_any _ _ _ _).mono ?_; rintro e w' ⟨rfl, rfl⟩)
                                      | (go_at_call 60; refine (refPower_any _ _ _ _ (by omega) (by omega)).mono ?_; rintro e w' ⟨rfl, rfl⟩)
                                      | (go_at_call 61; refine (refValid_any _ _).mono ?_; rintro e w' ⟨rfl, rfl⟩))
                                    all_goals (go_ret; exact ⟨by rw [show cok c = false by simp [cok, sizesOk, poolsOk, timesOk, ownsOk, g1, g2, g3, g4, g5, g6, g7, g8, g9, g10, g11, g12, h1, h2, h3, h4, h5]]; rfl, by repeat (first | exact Below.refl _ _ | refine Below.alloc ?_ (by simp <;> omega) _)⟩)
                                  · go_enter Try.func46, Try.ntmps46
                                    go_wp2_with (first
                                      | (go_at_call 59; refine (refWithin_any _ _ _ _).mono ?_; rintro e w' ⟨rfl, rfl⟩)
                                      | (go_at_call 60; refine (refPower_any _ _ _ _ (by omega) (by omega)).mono ?_; rintro e w' ⟨rfl, rfl⟩)
                                      | (go_at_call 61; refine (refValid_any _ _).mono ?_; rintro e w' ⟨rfl, rfl⟩))
                                    all_goals (go_ret; exact ⟨by rw [show cok c = true by simp [cok, sizesOk, poolsOk, timesOk, ownsOk, g1, g2, g3, g4, g5, g6, g7, g8, g9, g10, g11, g12, h1, h2, h3, h4, h5]]; rfl, by repeat (first | exact Below.refl _ _ | refine Below.alloc ?_ (by simp <;> omega) _)⟩)
                                · go_enter Try.func46, Try.ntmps46
                                  go_wp2_with (first
                                    | (go_at_call 59; refine (refWithin_any _ _ _ _).mono ?_; rintro e w' ⟨rfl, rfl⟩)
                                    | (go_at_call 60; refine (refPower_any _ _ _ _ (by omega) (by omega)).mono ?_; rintro e w' ⟨rfl, rfl⟩)
                                    | (go_at_call 61; refine (refValid_any _ _).mono ?_; rintro e w' ⟨rfl, rfl⟩))
                                  all_goals (go_ret; exact ⟨by rw [show cok c = false by simp [cok, sizesOk, poolsOk, timesOk, ownsOk, g1, g2, g3, g4, g5, g6, g7, g8, g9, g10, g11, g12, h1, h2, h3, h4]]; rfl, by repeat (first | exact Below.refl _ _ | refine Below.alloc ?_ (by simp <;> omega) _)⟩)
end Go.Proofs.Ytgjecemmejaieaa

/-
  The document's pool: NewPools.
-/
namespace Go.Proofs.Ytgjecemmejaieaa
open Go.RowKit Go.Shelf
theorem exec_bldR (parts : Array (Nat × Operand)) (dst : Option Tmp) (ty : TypeId) (pos : String) (after : Array Edge) (g : Option (Nat × Bool)) (f : Operand → Value) (w : World) :
    (execOp f ⟨dst, .build 120 parts, ty, pos, after, g⟩).run Try.prog w = bldX Try.prog 120 (parts.map fun (i, x) => (i, f x)) w := rfl
noncomputable def zR : Array Value := match (Try.prog.info? 120).bind (·.zero) with | some z => z.cells | none => #[]
theorem zR_ok : (zR.size == 52 && (match (zR[49]? : Option Value) with | some (.int .i64 0) => true | _ => false) && (match (zR[50]? : Option Value) with | some (.int .i64 0) => true | _ => false)) = true := by kernel_rfl
theorem builtR_fill (X : List (Nat × Value)) : Try.prog.built 120 X = Instr.fill (#[(0, 48), (48, 1), (49, 1), (50, 1), (51, 1)][·]?) zR X := by kernel_rfl
set_option maxRecDepth 100000 in
theorem built_rpc (c : Cf) (a1 a2 : Option Addr) (n1 c1 n2 c2 : Nat) : Try.prog.built 120 [(0, .agg (cc c)), (1, .slice a1 n1 c1), (4, .slice a2 n2 c2)] = some (rpc c (.slice a1 n1 c1) 0 0 (.slice a2 n2 c2)) := by
  have hz := zR_ok
  simp only [Bool.and_eq_true, beq_iff_eq] at hz
  rw [builtR_fill]
  generalize zR = z at hz ⊢
  have hc : (Value.agg (cc c)).cells = cc c := rfl
  have h1 : Instr.fill (#[(0, 48), (48, 1), (49, 1), (50, 1), (51, 1)][·]?) z [(0, .agg (cc c)), (1, .slice a1 n1 c1), (4, .slice a2 n2 c2)] = some (((splice z 0 (cc c).toList).setIfInBounds 48 (.slice a1 n1 c1)).setIfInBounds 51 (.slice a2 n2 c2)) := by
    have hf : (cc c).zipIdx.foldl (fun cs (x : Value × Nat) => cs.setIfInBounds (0 + x.2) x.1) z = splice z 0 (cc c).toList := by
      rw [← foldl_spliceP 0 (cc c).toList 0 z, ← Array.foldl_toList, Array.toList_zipIdx]
    simp only [Instr.fill, List.getElem?_toArray, List.getElem?_cons_zero, List.getElem?_cons_succ, hc, cc_size]
    rw [if_neg (by simp [hz.1.1])]
    rw [hf]
    simp [Value.cells, splice_size, hz.1.1]
  rw [h1]
  refine congrArg some (Array.ext_getElem? ?_)
  intro j
  simp only [Array.getElem?_setIfInBounds, Array.size_setIfInBounds, splice_size, hz.1.1]
  rw [splice_get _ _ _ _ (by simp [cc_size, hz.1.1])]
  rcases Nat.lt_or_ge j 48 with h | h
  · rw [if_neg (by omega), if_neg (by omega), if_pos (by simp [cc_size]; omega), rpc_lo _ _ _ _ _ _ h]
    simp
  · obtain ⟨i, rfl⟩ : ∃ i, j = 48 + i := ⟨j - 48, by omega⟩
    rw [rpc_hi]
    rcases Nat.lt_or_ge i 4 with h4 | h4
    · have : i = 0 ∨ i = 1 ∨ i = 2 ∨ i = 3 := by omega
      rcases this with rfl | rfl | rfl | rfl
      · rw [if_neg (by omega), if_pos (by omega), if_pos (by omega)] <;> rfl
      · rw [if_neg (by omega), if_neg (by omega), if_neg (by simp [cc_size])]
        have := hz.1.2
        split at this
        · assumption
        · cases this
      · rw [if_neg (by omega), if_neg (by omega), if_neg (by simp [cc_size])]
        have := hz.2
        split at this
        · assumption
        · cases this
      · rw [if_pos (by omega), if_pos (by omega)] <;> rfl
    · rw [if_neg (by omega), if_neg (by omega), if_neg (by simp [cc_size]), Array.getElem?_eq_none (by rw [hz.1.1]; omega), Array.getElem?_eq_none (by simp; omega)]
theorem build_rpc (c : Cf) (a1 a2 : Option Addr) (n1 c1 n2 c2 : Nat) (w : World) : bldX Try.prog 120 #[(0, .agg (cc c)), (1, .slice a1 n1 c1), (4, .slice a2 n2 c2)] w = .ok (.value (.agg (rpc c (.slice a1 n1 c1) 0 0 (.slice a2 n2 c2)))) w := bldX_of w (built_rpc c a1 a2 n1 c1 n2 c2)
def r0 : RV := ⟨false, false, 0, .slice none 0 0, []⟩
theorem infoR : (Try.prog.info? 124).map (fun i => (i.zero, i.size, i.bytes)) = some (some (.agg (RV.l r0).toArray), 4, 40) := by kernel_rfl
theorem slR : Try.prog.underlying 118 = some (.slice 124) := by kernel_rfl
theorem makeR (n : Nat) (hn : n ≤ 4096) (w : World) : (Instr.makeSlice 118 (.int .i64 (n : Int)) (.int .i64 (n : Int))).run Try.prog w = .ok (.slice (some ⟨w.heap.size, 0, none⟩) n n) (w.alloc (.cells ((List.replicate n r0).flatMap RV.l).toArray 124)) := by
  obtain ⟨i0, hi, hz0, hz1, hz2⟩ := info_parts infoR
  have := run_make (P := Try.prog) w 118 124 i0 _ slR hi hz0 .i64 .i64 n n (by omega) (by omega) (by rw [hz2]; omega) (by omega)
  rw [hz1, Int.toNat_natCast] at this
  rw [this, show (Value.agg (RV.l r0).toArray).cells = (RV.l r0).toArray from rfl, made_flat RV.len (by omega)]
attribute [local go_sem ↓] exec_bldR
/-- What is laid, as a pool. -/
theorem Rp.made {w : World} {B gt gp nv ll cl : Nat} {al : Option Addr} {c : Cf} {M : List Mb} (hnv : 0 < nv) (hb : nv ≤ 4096) (hgp : gp = w.heap.size) (hB : B ≤ w.heap.size) (ha : Sl 4 RV.l 124 w B (.slice (some ⟨gt, 0, none⟩) nv nv) (List.replicate nv r0)) (hm : Sl 19 Mb.l 108 w B (.slice al ll cl) M) :
    Rp (w.alloc (.cells (rpc c (.slice (some ⟨gt, 0, none⟩) nv nv) 0 0 (.slice al ll cl)) 120)) B gp gt c (List.replicate nv r0) 0 0 (.slice al ll cl) M where
  obj := by rw [List.length_replicate]; exact at_new _ _ _ _ hgp
  arr := by rw [List.length_replicate]; exact ha.alloc _
  bp := by omega
  vers := fun v hv => by rw [(List.mem_replicate.1 hv).2]; exact Sl.nil _ _ _ _ _
  ml := hm.alloc _
  lt := by rw [List.length_replicate]; omega
  ltl := by rw [List.length_replicate]; omega
  big := by rw [List.length_replicate]; omega
theorem arrAt {w : World} {B gt nv : Nat} {R : List RV} (h : Sl 4 RV.l 124 w B (.slice (some ⟨gt, 0, none⟩) nv nv) R) : ∃ cs, At w gt 124 cs := by
  rcases h.cases with ⟨h1, _⟩ | ⟨g, c', cur, h1, h2, h3, _⟩
  · simp at h1
  · simp only [Value.slice.injEq, Option.some.injEq, Addr.mk.injEq, and_true] at h1
    obtain ⟨rfl, _⟩ := h1
    exact ⟨_, h3⟩
set_option maxRecDepth 100000 in
set_option maxHeartbeats 8000000 in
theorem rnew_bad (c : Cf) (am : Option Addr) (nm cm : Nat) (M : List Mb) (w : World) (hM : Rd 19 Mb.l w am nm M) (hn : nm ≤ 4096) (hc : cok c = true) (hok : mOk M = false) :
    Calls Try.prog 27 #[.agg (cc c), .slice am nm cm] w fun e w' => e = .returned (.pointer none) ∧ Below w.heap.size w w' := by
  have HM := Lib.hid hM
  have HOK := Lib.hid hok
  have HCK := Lib.hid hc
  clear hM hok hc
  go_enter Try.func27, Try.ntmps27
  go_upto_region 1 with fail
  obtain ⟨bc, hbc⟩ : ∃ bc, bc = w.heap.size := ⟨_, rfl⟩
  rw [← hbc]
  have HC := Lib.hid (at_new w 33 (cc c) bc hbc)
  replace HM := Lib.hid (HM.out.alloc (.cells (cc c) 33))
  have HB := Lib.hid ((Below.refl w.heap.size w).alloc (Nat.le_refl _) (.cells (cc c) 33))
  clear hbc
  generalize w.alloc (.cells (cc c) 33) = W at *
  have r1 := HC.out.row
  have o1 := HC.out.open
  have l1 := HC.out.lt
  go_wp2_with fail
  refine (refCheck_any c _).mono ?_
  rintro e w1 ⟨rfl, hb⟩
  rw [HCK.out]
  replace HM := Lib.hid (HM.out.below hb)
  replace HB := Lib.hid (step_below HB.out hb)
  clear r1 o1 l1 hb
  go_wp2_with fail
  refine (rmembers_any am nm cm M _ HM.out hn).mono ?_
  rintro e w2 ⟨rfl, hb⟩
  rw [HOK.out]
  replace HB := Lib.hid (step_below HB.out hb)
  clear hb
  go_wp2_with fail
  go_ret
  exact ⟨rfl, HB.out⟩
set_option maxRecDepth 100000 in
set_option maxHeartbeats 8000000 in
theorem rnew_any (c : Cf) (am : Option Addr) (nm cm n nv : Nat) (M : List Mb) (w : World) (hM : Rd 19 Mb.l w am nm M) (hok : mOk M = true) (hc : cok c = true) (hn : c.slots = n) (hv : c.versions = nv) (h1 : 1 ≤ n) (h2 : n ≤ 64) (h3 : 1 ≤ nv) (h4 : nv ≤ 64) :
    Calls Try.prog 27 #[.agg (cc c), .slice am nm cm] w fun e w' => ∃ p t mv sv, e = .returned (.pointer (some ⟨p, 0, none⟩)) ∧
      Rp w' w.heap.size p t c ((List.replicate nv r0).set 0 ⟨true, false, 0, sv, fillR [] M n⟩) 0 0 mv M ∧ Below w.heap.size w w' := by
  have HM := Lib.hid hM
  have HOK := Lib.hid hok
  have HCK := Lib.hid hc
  have HLE := Lib.hid (show nm ≤ 32 by have := (mOk_w hok).1; have := hM.1; omega)
  clear hM hok hc
  go_enter Try.func27, Try.ntmps27
  go_upto_region 1 with fail
  obtain ⟨bc, hbc⟩ : ∃ bc, bc = w.heap.size := ⟨_, rfl⟩
  rw [← hbc]
  have HC := Lib.hid (at_new w 33 (cc c) bc hbc)
  replace HM := Lib.hid (HM.out.alloc (.cells (cc c) 33))
  have HB := Lib.hid ((Below.refl w.heap.size w).alloc (Nat.le_refl _) (.cells (cc c) 33))
  clear hbc
  generalize w.alloc (.cells (cc c) 33) = W at *
  have r1 := HC.out.row
  have o1 := HC.out.open
  have l1 := HC.out.lt
  go_wp2_with fail
  refine (refCheck_any c _).mono ?_
  rintro e w1 ⟨rfl, hb⟩
  rw [HCK.out]
  replace HC := Lib.hid (HC.out.below hb HC.out.lt)
  replace HM := Lib.hid (HM.out.below hb)
  replace HB := Lib.hid (step_below HB.out hb)
  clear r1 o1 l1 hb
  go_wp2_with fail
  refine (rmembers_any am nm cm M _ HM.out (by have := HLE.out; omega)).mono ?_
  rintro e w2 ⟨rfl, hb⟩
  rw [HOK.out]
  replace HC := Lib.hid (HC.out.below hb HC.out.lt)
  replace HM := Lib.hid (HM.out.below hb)
  replace HB := Lib.hid (step_below HB.out hb)
  clear hb
  have r1 := HC.out.row
  have o1 := HC.out.open
  have l1 := HC.out.lt
  have c6 := HC.out.cell 6
  rw [cl_head c 6 (by omega)] at c6
  simp only [Cf.head, List.getElem?_cons_succ, List.getElem?_cons_zero, hv] at c6
  go_upto_region 3 with fail
  go_cut [5, 16, 17, 18, 19, 20, 21, 22, 23, 24] (fun s5 _ _ _ _ _ _ _ _ _ wx => ∃ p t mv, s5 = .pointer (some ⟨p, 0, none⟩) ∧ Rp wx w.heap.size p t c (List.replicate nv r0) 0 0 mv M ∧ Below w2.heap.size w2 wx)
  case first =>
    have HWS := Lib.hid HB.out.size
    have hbcl : ¬ w2.heap.size ≤ bc := by omega
    replace HB := Lib.hid (Below.refl w2.heap.size w2)
    refine region_sq_till (fun i => w2.heap.size ≤ i) [(0, true), (1, true), (2, true), (5, true)] 6 (by kernel_rfl) (by kernel_rfl) (fun _ _ d _ _ h => by cases d <;> exact h) ?_
    repeat (first
      | (refine sq_yes rfl (by rfl) (fun w' hM => by ((try replace hM := hM.of_drew); obtain ⟨hR1, hR2, hR3⟩ := hM.rules; clear hM; go_simp; with_reducible rfl)) ?_; simp only [Act.put, List.setIfInBounds_toArray, List.set_cons_zero, List.set_cons_succ])
      | (refine sq_no rfl (by rfl) ?_; simp only [Act.put, List.setIfInBounds_toArray, List.set_cons_zero, List.set_cons_succ]))
    refine sq_end ?_
    clear r1 o1 l1 c6 hbcl HC
    refine any_two (n := 5) 3 4 (by kernel_rfl) ?_ ?_
    · have hmk := makeR nv (by omega) w2.drew
      refine sq_do_yes rfl (by rfl) (fun K hK => ?_)
      go_wp2_with fail
      refine ⟨(Mod.refl _ _).alloc _, ?_⟩
      refine sq_end ?_
      obtain ⟨gt, hgt⟩ : ∃ gt, gt = w2.heap.size := ⟨_, rfl⟩
      rw [← hgt]
      have hat := at_new w2 124 ((List.replicate nv r0).flatMap RV.l).toArray gt hgt
      have HAR := Lib.hid (Sl.of (B := w.heap.size) (L := List.replicate nv r0) RV.len hat (by rw [hgt]; exact Nat.le_trans HWS.out HB.out.size) (by simp) (by rw [List.length_replicate]; unfold maxLen; omega))
      rw [List.length_replicate] at HAR
      replace HB := Lib.hid (HB.out.alloc HB.out.size (.cells ((List.replicate nv r0).flatMap RV.l).toArray 124))
      replace HM := Lib.hid (HM.out.alloc (.cells ((List.replicate nv r0).flatMap RV.l).toArray 124))
      have HG2 := Lib.hid hgt
      clear hmk hat hgt
      generalize w2.alloc (.cells ((List.replicate nv r0).flatMap RV.l).toArray 124) = W3 at *
      refine any_sq (n := 0) [(4, false), (6, false), (7, true), (8, false), (9, true)] (by kernel_rfl) (fun _ _ d _ _ h => by cases d <;> exact h) ?_
      refine sq_do_yes rfl (by rfl) (fun K hK => ?_)
      go_wp2_with fail
      refine ⟨(Mod.refl _ _).alloc _, ?_⟩
      obtain ⟨gq, hgq⟩ : ∃ gq, gq = W3.heap.size := ⟨_, rfl⟩
      rw [← hgq]
      have HEM := Lib.hid (Sl.empty 19 Mb.l 108 W3 gq hgq (show w.heap.size ≤ gq by rw [hgq]; exact Nat.le_trans HWS.out HB.out.size))
      have HGQ := Lib.hid (show w2.heap.size ≤ gq by rw [hgq]; exact HB.out.size)
      replace HB := Lib.hid (HB.out.alloc HB.out.size (.cells #[] 108))
      replace HM := Lib.hid (HM.out.alloc (.cells #[] 108))
      replace HAR := Lib.hid (HAR.out.alloc (.cells #[] 108))
      clear hgq
      generalize W3.alloc (.cells #[] 108) = W4 at *
      repeat (first
        | (refine sq_yes rfl (by rfl) (fun w' hM => by ((try replace hM := hM.of_drew); obtain ⟨hR1, hR2, hR3⟩ := hM.rules; clear hM; go_simp; with_reducible rfl)) ?_; simp only [Act.put, List.setIfInBounds_toArray, List.set_cons_zero, List.set_cons_succ])
        | (refine sq_no rfl (by rfl) ?_; simp only [Act.put, List.setIfInBounds_toArray, List.set_cons_zero, List.set_cons_succ]))
      refine sq_do_yes rfl (by rfl) (fun K hK => ?_)
      refine wp_sl_app (B := w.heap.size) (L := []) Mb.len ml_one slMb infoMb3 (mc_size _) (by decide) HEM.out.drew HM.out.drew (by have := HLE.out; simp [maxLen]; omega) (by have := HLE.out; simp; omega) (Nat.le_trans HWS.out HB.out.size) rfl rfl rfl ?_
      intro v5 W5 hs5 hm5 _
      obtain ⟨al, cl, hlv⟩ := hs5.form
      obtain ⟨ll, hll⟩ : ∃ m, m = ([] ++ M : List Mb).length := ⟨_, rfl⟩
      rw [← hll] at hlv
      subst hlv
      have HLV := Lib.hid hs5
      have HB5 := Lib.hid (HB.out.drew.trans (mod_below hm5 HB.out.drew.size (fun g hg => by simp only [Value.ownBlock, Option.some.injEq] at hg; have := HGQ.out; omega)))
      obtain ⟨csA, hcA⟩ := arrAt HAR.out
      have hqt := HEM.out.ne hcA (by decide)
      replace HAR := Lib.hid (HAR.out.drew.mod hm5 (fun g hg e => hqt (e.trans hg.symm)))
      clear hqt hcA
      refine hK _ _ ⟨hm5.mono (fun g _ hg => by simp only [Value.ownBlock, Option.some.injEq] at hg; have := HGQ.out; have := HG2.out; omega), ?_⟩
      clear hs5 hm5 hll
      replace HB := HB5
      clear HB5
      simp only [Act.put, List.setIfInBounds_toArray, List.set_cons_zero, List.set_cons_succ]
      have hbp := build_rpc c (some ⟨gt, 0, none⟩) al nv nv ll cl
      repeat (first
        | (refine sq_yes rfl (by rfl) (fun w' hM => by ((try replace hM := hM.of_drew); obtain ⟨hR1, hR2, hR3⟩ := hM.rules; clear hM; go_simp; with_reducible rfl)) ?_; simp only [Act.put, List.setIfInBounds_toArray, List.set_cons_zero, List.set_cons_succ])
        | (refine sq_no rfl (by rfl) ?_; simp only [Act.put, List.setIfInBounds_toArray, List.set_cons_zero, List.set_cons_succ]))
      clear hbp
      refine sq_do_yes rfl (by rfl) (fun K hK => ?_)
      go_wp2_with fail
      refine ⟨(Mod.refl _ _).alloc _, ?_⟩
      repeat (first
        | (refine sq_yes rfl (by rfl) (fun w' hM => by ((try replace hM := hM.of_drew); obtain ⟨hR1, hR2, hR3⟩ := hM.rules; clear hM; go_simp; with_reducible rfl)) ?_; simp only [Act.put, List.setIfInBounds_toArray, List.set_cons_zero, List.set_cons_succ])
        | (refine sq_no rfl (by rfl) ?_; simp only [Act.put, List.setIfInBounds_toArray, List.set_cons_zero, List.set_cons_succ]))
      refine sq_end ?_
      refine any_end (by kernel_rfl) ?_
      go_wp2_with fail
      go_meet
      exact ⟨_, gt, .slice al ll cl, rfl, Rp.made (by omega) (by omega) rfl (Nat.le_trans HWS.out HB.out.size) HAR.out HLV.out, HB.out.alloc HB.out.size _⟩
    · refine sq_do_yes rfl (by rfl) (fun K hK => ?_)
      go_wp2_with fail
      refine ⟨(Mod.refl _ _).alloc _, ?_⟩
      refine sq_end ?_
      obtain ⟨gq, hgq⟩ : ∃ gq, gq = w2.heap.size := ⟨_, rfl⟩
      rw [← hgq]
      have HEM := Lib.hid (Sl.empty 19 Mb.l 108 w2 gq hgq (show w.heap.size ≤ gq by rw [hgq]; exact Nat.le_trans HWS.out HB.out.size))
      have HGQ := Lib.hid (show w2.heap.size ≤ gq by rw [hgq]; exact HB.out.size)
      replace HB := Lib.hid (HB.out.alloc HB.out.size (.cells #[] 108))
      replace HM := Lib.hid (HM.out.alloc (.cells #[] 108))
      clear hgq
      generalize w2.alloc (.cells #[] 108) = W3 at *
      refine any_two (n := 4) 3 6 (by kernel_rfl) ?_ ?_
      · have hmk := makeR nv (by omega) W3.drew
        refine sq_do_yes rfl (by rfl) (fun K hK => ?_)
        go_wp2_with fail
        refine ⟨(Mod.refl _ _).alloc _, ?_⟩
        refine sq_end ?_
        obtain ⟨gt, hgt⟩ : ∃ gt, gt = W3.heap.size := ⟨_, rfl⟩
        rw [← hgt]
        have hat := at_new W3 124 ((List.replicate nv r0).flatMap RV.l).toArray gt hgt
        have HAR := Lib.hid (Sl.of (B := w.heap.size) (L := List.replicate nv r0) RV.len hat (by rw [hgt]; exact Nat.le_trans HWS.out HB.out.size) (by simp) (by rw [List.length_replicate]; unfold maxLen; omega))
        rw [List.length_replicate] at HAR
        replace HB := Lib.hid (HB.out.alloc HB.out.size (.cells ((List.replicate nv r0).flatMap RV.l).toArray 124))
        replace HM := Lib.hid (HM.out.alloc (.cells ((List.replicate nv r0).flatMap RV.l).toArray 124))
        replace HEM := Lib.hid (HEM.out.alloc (.cells ((List.replicate nv r0).flatMap RV.l).toArray 124))
        clear hmk hat hgt
        generalize W3.alloc (.cells ((List.replicate nv r0).flatMap RV.l).toArray 124) = W4 at *
        refine any_sq (n := 0) [(6, false), (7, true), (8, false), (9, true)] (by kernel_rfl) (fun _ _ d _ _ h => by cases d <;> exact h) ?_
        refine sq_do_yes rfl (by rfl) (fun K hK => ?_)
        refine wp_sl_app (B := w.heap.size) (L := []) Mb.len ml_one slMb infoMb3 (mc_size _) (by decide) HEM.out.drew HM.out.drew (by have := HLE.out; simp [maxLen]; omega) (by have := HLE.out; simp; omega) (Nat.le_trans HWS.out HB.out.size) rfl rfl rfl ?_
        intro v5 W5 hs5 hm5 _
        obtain ⟨al, cl, hlv⟩ := hs5.form
        obtain ⟨ll, hll⟩ : ∃ m, m = ([] ++ M : List Mb).length := ⟨_, rfl⟩
        rw [← hll] at hlv
        subst hlv
        have HLV := Lib.hid hs5
        have HB5 := Lib.hid (HB.out.drew.trans (mod_below hm5 HB.out.drew.size (fun g hg => by simp only [Value.ownBlock, Option.some.injEq] at hg; have := HGQ.out; omega)))
        obtain ⟨csA, hcA⟩ := arrAt HAR.out
        have hqt := HEM.out.ne hcA (by decide)
        replace HAR := Lib.hid (HAR.out.drew.mod hm5 (fun g hg e => hqt (e.trans hg.symm)))
        clear hqt hcA
        refine hK _ _ ⟨hm5.mono (fun g _ hg => by simp only [Value.ownBlock, Option.some.injEq] at hg; have := HGQ.out; omega), ?_⟩
        clear hs5 hm5 hll
        replace HB := HB5
        clear HB5
        simp only [Act.put, List.setIfInBounds_toArray, List.set_cons_zero, List.set_cons_succ]
        have hbp := build_rpc c (some ⟨gt, 0, none⟩) al nv nv ll cl
        repeat (first
          | (refine sq_yes rfl (by rfl) (fun w' hM => by ((try replace hM := hM.of_drew); obtain ⟨hR1, hR2, hR3⟩ := hM.rules; clear hM; go_simp; with_reducible rfl)) ?_; simp only [Act.put, List.setIfInBounds_toArray, List.set_cons_zero, List.set_cons_succ])
          | (refine sq_no rfl (by rfl) ?_; simp only [Act.put, List.setIfInBounds_toArray, List.set_cons_zero, List.set_cons_succ]))
        clear hbp
        refine sq_do_yes rfl (by rfl) (fun K hK => ?_)
        go_wp2_with fail
        refine ⟨(Mod.refl _ _).alloc _, ?_⟩
        repeat (first
          | (refine sq_yes rfl (by rfl) (fun w' hM => by ((try replace hM := hM.of_drew); obtain ⟨hR1, hR2, hR3⟩ := hM.rules; clear hM; go_simp; with_reducible rfl)) ?_; simp only [Act.put, List.setIfInBounds_toArray, List.set_cons_zero, List.set_cons_succ])
          | (refine sq_no rfl (by rfl) ?_; simp only [Act.put, List.setIfInBounds_toArray, List.set_cons_zero, List.set_cons_succ]))
        refine sq_end ?_
        refine any_end (by kernel_rfl) ?_
        go_wp2_with fail
        go_meet
        exact ⟨_, gt, .slice al ll cl, rfl, Rp.made (by omega) (by omega) rfl (Nat.le_trans HWS.out HB.out.size) HAR.out HLV.out, HB.out.alloc HB.out.size _⟩
      · refine sq_do_yes rfl (by rfl) (fun K hK => ?_)
        refine wp_sl_app (B := w.heap.size) (L := []) Mb.len ml_one slMb infoMb3 (mc_size _) (by decide) HEM.out.drew HM.out.drew (by have := HLE.out; simp [maxLen]; omega) (by have := HLE.out; simp; omega) (Nat.le_trans HWS.out HB.out.size) rfl rfl rfl ?_
        intro v5 W5 hs5 hm5 _
        obtain ⟨al, cl, hlv⟩ := hs5.form
        obtain ⟨ll, hll⟩ : ∃ m, m = ([] ++ M : List Mb).length := ⟨_, rfl⟩
        rw [← hll] at hlv
        subst hlv
        have HLV := Lib.hid hs5
        have HB5 := Lib.hid (HB.out.drew.trans (mod_below hm5 HB.out.drew.size (fun g hg => by simp only [Value.ownBlock, Option.some.injEq] at hg; have := HGQ.out; omega)))
        refine hK _ _ ⟨hm5.mono (fun g _ hg => by simp only [Value.ownBlock, Option.some.injEq] at hg; have := HGQ.out; omega), ?_⟩
        clear hs5 hm5 hll
        replace HB := HB5
        clear HB5
        simp only [Act.put, List.setIfInBounds_toArray, List.set_cons_zero, List.set_cons_succ]
        refine sq_end ?_
        have hmk := makeR nv (by omega) W5
        refine any_sq (n := 0) [(3, false), (7, true), (8, false), (9, true)] (by kernel_rfl) (fun _ _ d _ _ h => by cases d <;> exact h) ?_
        refine sq_do_yes rfl (by rfl) (fun K hK => ?_)
        go_wp2_with fail
        refine ⟨(Mod.refl _ _).alloc _, ?_⟩
        obtain ⟨gt, hgt⟩ : ∃ gt, gt = W5.heap.size := ⟨_, rfl⟩
        rw [← hgt]
        have hat := at_new W5 124 ((List.replicate nv r0).flatMap RV.l).toArray gt hgt
        have HAR := Lib.hid (Sl.of (B := w.heap.size) (L := List.replicate nv r0) RV.len hat (by rw [hgt]; exact Nat.le_trans HWS.out HB.out.size) (by simp) (by rw [List.length_replicate]; unfold maxLen; omega))
        rw [List.length_replicate] at HAR
        replace HB := Lib.hid (HB.out.alloc HB.out.size (.cells ((List.replicate nv r0).flatMap RV.l).toArray 124))
        replace HLV := Lib.hid (HLV.out.alloc (.cells ((List.replicate nv r0).flatMap RV.l).toArray 124))
        clear hmk hat hgt
        generalize W5.alloc (.cells ((List.replicate nv r0).flatMap RV.l).toArray 124) = W6 at *
        have hbp := build_rpc c (some ⟨gt, 0, none⟩) al nv nv ll cl
        repeat (first
          | (refine sq_yes rfl (by rfl) (fun w' hM => by ((try replace hM := hM.of_drew); obtain ⟨hR1, hR2, hR3⟩ := hM.rules; clear hM; go_simp; with_reducible rfl)) ?_; simp only [Act.put, List.setIfInBounds_toArray, List.set_cons_zero, List.set_cons_succ])
          | (refine sq_no rfl (by rfl) ?_; simp only [Act.put, List.setIfInBounds_toArray, List.set_cons_zero, List.set_cons_succ]))
        clear hbp
        refine sq_do_yes rfl (by rfl) (fun K hK => ?_)
        go_wp2_with fail
        refine ⟨(Mod.refl _ _).alloc _, ?_⟩
        repeat (first
          | (refine sq_yes rfl (by rfl) (fun w' hM => by ((try replace hM := hM.of_drew); obtain ⟨hR1, hR2, hR3⟩ := hM.rules; clear hM; go_simp; with_reducible rfl)) ?_; simp only [Act.put, List.setIfInBounds_toArray, List.set_cons_zero, List.set_cons_succ])
          | (refine sq_no rfl (by rfl) ?_; simp only [Act.put, List.setIfInBounds_toArray, List.set_cons_zero, List.set_cons_succ]))
        refine sq_end ?_
        refine any_end (by kernel_rfl) ?_
        go_wp2_with fail
        go_meet
        exact ⟨_, gt, .slice al ll cl, rfl, Rp.made (by omega) (by omega) rfl (Nat.le_trans HWS.out HB.out.size) HAR.out HLV.out, HB.out.alloc HB.out.size _⟩
  case rest =>
    clear r1 o1 l1 c6
    obtain ⟨p, t, mv, rfl, hR, hb⟩ := hcut
    have HR := Lib.hid hR
    replace HC := Lib.hid (HC.out.below hb HC.out.lt)
    replace HM := Lib.hid (HM.out.below hb)
    replace HB := Lib.hid (step_below HB.out hb)
    clear hR hb
    have c5 := HC.out.cell 5
    rw [cl_head c 5 (by omega)] at c5
    simp only [Cf.head, List.getElem?_cons_succ, List.getElem?_cons_zero, hn] at c5
    have l1 := HC.out.lt
    go_wp2_with fail
    refine (rfill_any none am 0 0 nm cm n [] M _ (Rd.zero _ _ _ _) HM.out HOK.out h1 h2 (.inl rfl)).mono ?_
    rintro e w3 ⟨svn, rfl, hs3, hb3⟩
    have HS3 := Lib.hid (hs3.base (show w.heap.size ≤ wc.heap.size from HB.out.size))
    obtain ⟨an, cn, hsn⟩ := hs3.form
    obtain ⟨ln, hln⟩ : ∃ m, m = (fillR [] M n).length := ⟨_, rfl⟩
    rw [← hln] at hsn
    subst hsn
    replace HR := Lib.hid (HR.out.below hb3)
    replace HB := Lib.hid (step_below HB.out hb3)
    clear hs3 hb3 hln c5 l1 HC HM
    have HZ := Lib.hid (show (List.replicate nv r0)[0]? = some r0 by rw [List.getElem?_replicate, if_pos (by omega)])
    obtain ⟨c48, -, -, -, hl⟩ := HR.out.cells
    have c0 := HR.out.at0 HZ.out
    obtain ⟨c1, c2, c3, htl⟩ := HR.out.at HZ.out
    rw [List.length_replicate] at c48
    rw [Nat.zero_mul] at c0 c1 c2 c3
    have f0 := (HR.out.frz 0).2
    have f1 := (HR.out.frz 1).2
    have f2 := (HR.out.frz 2).2
    have f3 := (HR.out.frz 3).2
    have hnz : (0 : Int) < (nv : Int) := by omega
    have hnz2 : 0 < nv := by omega
    have H4 := Lib.hid (HR.out.setWhole (i := 0) (by rw [List.length_replicate]; omega) ⟨true, false, 0, .slice an ln cn, fillR [] M n⟩ HS3.out)
    rw [Nat.zero_mul] at H4
    simp only [RV.l, Int.natCast_zero] at H4
    have HB4 := Lib.hid (HB.out.trans (mod_below (Mod.setCells (M := fun g => g = t) (g := t) rfl [.bool true, .bool false, .int .i64 0, .slice an ln cn] 0 w3) HB.out.size (fun g hg => by rw [hg]; exact HR.out.bt)))
    go_wp2_with fail
    go_ret
    exact ⟨p, t, mv, .slice an ln cn, rfl, H4.out, HB4.out⟩
end Go.Proofs.Ytgjecemmejaieaa

/-
  The document's update, made.
-/
namespace Go.Proofs.Ytgjecemmejaieaa
open Go.RowKit Go.Shelf
/-- The document's filter, empty. -/
def rfc (c : Cf) (N : Nat) : Array Value := cc c ++ #[.int .i64 N, .slice none 0 0]
@[go_sem] theorem rfc_size (c : Cf) (N : Nat) : (rfc c N).size = 50 := by simp [rfc, cc_size]
theorem rfc_48 (c : Cf) (N : Nat) : (rfc c N)[48]? = some (.int .i64 N) := by
  unfold rfc; rw [Array.getElem?_append_right (by rw [cc_size]; omega), cc_size]; rfl
theorem rfc_49 (c : Cf) (N : Nat) : (rfc c N)[49]? = some (.slice none 0 0) := by
  unfold rfc; rw [Array.getElem?_append_right (by rw [cc_size]; omega), cc_size]; rfl
theorem exec_bldG (parts : Array (Nat × Operand)) (dst : Option Tmp) (ty : TypeId) (pos : String) (after : Array Edge) (g : Option (Nat × Bool)) (f : Operand → Value) (w : World) :
    (execOp f ⟨dst, .build 113 parts, ty, pos, after, g⟩).run Try.prog w = bldX Try.prog 113 (parts.map fun (i, x) => (i, f x)) w := rfl
/-- The zero value's cells. -/
noncomputable def zG : Array Value := match (Try.prog.info? 113).bind (·.zero) with | some z => z.cells | none => #[]
theorem zG_ok : (zG.size == 50 && (match (zG[49]? : Option Value) with | some (.slice none 0 0) => true | _ => false)) = true := by kernel_rfl
theorem built_fillG (X : List (Nat × Value)) : Try.prog.built 113 X = Instr.fill (#[(0, 48), (48, 1), (49, 1)][·]?) zG X := by kernel_rfl
set_option maxRecDepth 100000 in
theorem built_rfc (c : Cf) (N : Nat) : Try.prog.built 113 [(0, .agg (cc c)), (1, .int .i64 (N : Int))] = some (rfc c N) := by
  have hz := zG_ok
  simp only [Bool.and_eq_true, beq_iff_eq] at hz
  rw [built_fillG]
  have hc : (Value.agg (cc c)).cells = cc c := rfl
  have h1 : Instr.fill (#[(0, 48), (48, 1), (49, 1)][·]?) zG [(0, .agg (cc c)), (1, .int .i64 (N : Int))] = some ((splice zG 0 (cc c).toList).setIfInBounds 48 (.int .i64 (N : Int))) := by
    have hf : (cc c).zipIdx.foldl (fun cs (x : Value × Nat) => cs.setIfInBounds (0 + x.2) x.1) zG = splice zG 0 (cc c).toList := by
      rw [← foldl_spliceP 0 (cc c).toList 0 zG, ← Array.foldl_toList, Array.toList_zipIdx]
    simp only [Instr.fill, List.getElem?_toArray, List.getElem?_cons_zero, List.getElem?_cons_succ, hc, cc_size]
    rw [if_neg (by simp [hz.1])]
    rw [hf]
    rw [if_neg (by simp [Value.cells, splice_size, hz.1])]
    simp [Value.cells]
  rw [h1]
  congr 1
  apply Array.ext_getElem?
  intro j
  rw [Array.getElem?_setIfInBounds, splice_size, hz.1, splice_get _ _ _ _ (by simp [cc_size, hz.1])]
  rcases Nat.lt_or_ge j 48 with h | h
  · rw [if_neg (by omega), if_pos (by simp [cc_size]; omega)]
    unfold rfc
    rw [Array.getElem?_append_left (by rw [cc_size]; omega)]
    simp
  · by_cases h48 : j = 48
    · subst h48
      rw [if_pos rfl, if_pos (by omega), rfc_48]
    · rw [if_neg (by omega), if_neg (by simp [cc_size]; omega)]
      by_cases h49 : j = 49
      · subst h49
        rw [rfc_49]
        have := hz.2
        split at this
        · assumption
        · cases this
      · rw [Array.getElem?_eq_none (by rw [hz.1]; omega), Array.getElem?_eq_none (by rw [rfc_size]; omega)]
theorem build_rfc (c : Cf) (N : Nat) (w : World) : bldX Try.prog 113 #[(0, .agg (cc c)), (1, .int .i64 (N : Int))] w = .ok (.value (.agg (rfc c N))) w := bldX_of w (built_rfc c N)
/-- The document's update's cells. -/
def ruc (p gd : Nat) (st : Nat) (lv : Value) (work old : Nat) (mark : Int) : Array Value :=
  #[.pointer (some ⟨p, 0, none⟩), .pointer (some ⟨gd, 0, none⟩), .int .i64 (st : Nat), lv, .int .i64 (work : Nat), .int .i64 (old : Nat), .int .i64 mark]
attribute [local go_sem ↓] exec_bldG
set_option maxRecDepth 100000 in
set_option maxHeartbeats 4000000 in
theorem rnewu_any (c : Cf) (p N : Nat) (w : World) (hN : c.bloom = N) : Calls Try.prog 26 #[.agg (cc c), .pointer (some ⟨p, 0, none⟩)] w fun e w' => ∃ gd gu, e = .returned (.pointer (some ⟨gu, 0, none⟩)) ∧ w.heap.size ≤ gd ∧ w.heap.size ≤ gu ∧
    At w' gd 113 (rfc c N) ∧ At w' gu 115 (ruc p gd 0 (.slice none 0 0) 0 0 0) ∧ Below w.heap.size w w' := by
  obtain ⟨g, hg⟩ : ∃ g, g = w.heap.size := ⟨_, rfl⟩
  have HC := Lib.hid (at_new w 33 (cc c) g hg)
  have HB := Lib.hid ((Below.refl w.heap.size w).alloc (Nat.le_refl _) (.cells (cc c) 33))
  go_enter Try.func26, Try.ntmps26
  go_upto_region 1 with fail
  rw [← hg]
  clear hg
  generalize w.alloc (.cells (cc c) 33) = W1 at *
  have r1 := HC.out.row
  have o1 := HC.out.open
  have l1 := HC.out.lt
  have c3 := HC.out.cell 3
  rw [cl_head c 3 (by omega)] at c3
  simp only [Cf.head, List.getElem?_cons_succ, List.getElem?_cons_zero, hN] at c3
  have hbl := fun w => build_rfc c N w
  go_wp2_with fail
  go_ret
  exact ⟨W1.heap.size, W1.heap.size + 1, rfl, HB.out.size, Nat.le_succ_of_le HB.out.size, (at_new _ _ _ _ rfl).alloc _, at_new _ _ _ _ (by simp), (HB.out.alloc HB.out.size _).alloc (by have := HB.out.size; simp; omega) _⟩
end Go.Proofs.Ytgjecemmejaieaa
