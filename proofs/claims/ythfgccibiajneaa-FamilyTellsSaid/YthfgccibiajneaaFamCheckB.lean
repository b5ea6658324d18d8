/-
  family.Check and the document's Check.
-/
import Derived.Test.YthfgccibiajneaaFamCheck
namespace Go.Proofs.Ythfgccibiajneaa
open Go.RowKit
/-- What Check tells. -/
def chk (c : Cf) : Int := if cok c = true then 0 else 1
theorem chk_yes (c : Cf) (h : cok c = true) : chk c = 0 := by unfold chk; rw [if_pos h]
theorem chk_no (c : Cf) (h : cok c = false) : chk c = 1 := by unfold chk; rw [h]; rfl
set_option maxRecDepth 100000 in
set_option maxHeartbeats 8000000 in
theorem check_any (c : Cf) (w : World) : Calls Try.prog 13 #[.agg (cc c)] w fun e w' => e = .returned (.int .i64 (chk c)) ∧ Below w.heap.size w w' := by
  have HK := Lib.hid (show chk c = if (sizesOk c && poolsOk c && timesOk c && ownsOk c) = true then 0 else 1 from rfl)
  go_enter Try.func13, Try.ntmps13
  go_upto_region 1 with fail
  go_cut [3] (fun s wx => s = .bool (sizesOk c) ∧ wx = w.alloc (.cells (cc c) 27))
  case first =>
    cases h1 : wi c.stages 1 4
    · go_wp2_with (first
        | (go_at_call 76; refine (within_any _ _ _ _).mono ?_; rintro e w' ⟨rfl, rfl⟩)
        | (go_at_call 77; refine (power_any _ _ _ _ (by omega) (by omega)).mono ?_; rintro e w' ⟨rfl, rfl⟩)
        | (go_at_call 78; refine (valid_any _ _).mono ?_; rintro e w' ⟨rfl, rfl⟩))
      go_meet
      exact ⟨congrArg Value.bool (show _ = sizesOk c by simp [sizesOk, h1]), rfl⟩
    · cases h2 : pw c.size 2 1024
      · go_wp2_with (first
          | (go_at_call 76; refine (within_any _ _ _ _).mono ?_; rintro e w' ⟨rfl, rfl⟩)
          | (go_at_call 77; refine (power_any _ _ _ _ (by omega) (by omega)).mono ?_; rintro e w' ⟨rfl, rfl⟩)
          | (go_at_call 78; refine (valid_any _ _).mono ?_; rintro e w' ⟨rfl, rfl⟩))
        go_meet
        exact ⟨congrArg Value.bool (show _ = sizesOk c by simp [sizesOk, h1, h2]), rfl⟩
      · cases h3 : wi c.digest 1 16
        · go_wp2_with (first
            | (go_at_call 76; refine (within_any _ _ _ _).mono ?_; rintro e w' ⟨rfl, rfl⟩)
            | (go_at_call 77; refine (power_any _ _ _ _ (by omega) (by omega)).mono ?_; rintro e w' ⟨rfl, rfl⟩)
            | (go_at_call 78; refine (valid_any _ _).mono ?_; rintro e w' ⟨rfl, rfl⟩))
          go_meet
          exact ⟨congrArg Value.bool (show _ = sizesOk c by simp [sizesOk, h1, h2, h3]), rfl⟩
        · cases h4 : pw c.bloom 8 65536
          · go_wp2_with (first
              | (go_at_call 76; refine (within_any _ _ _ _).mono ?_; rintro e w' ⟨rfl, rfl⟩)
              | (go_at_call 77; refine (power_any _ _ _ _ (by omega) (by omega)).mono ?_; rintro e w' ⟨rfl, rfl⟩)
              | (go_at_call 78; refine (valid_any _ _).mono ?_; rintro e w' ⟨rfl, rfl⟩))
            go_meet
            exact ⟨congrArg Value.bool (show _ = sizesOk c by simp [sizesOk, h1, h2, h3, h4]), rfl⟩
          · cases h5 : wi c.hashes 1 4
            · go_wp2_with (first
                | (go_at_call 76; refine (within_any _ _ _ _).mono ?_; rintro e w' ⟨rfl, rfl⟩)
                | (go_at_call 77; refine (power_any _ _ _ _ (by omega) (by omega)).mono ?_; rintro e w' ⟨rfl, rfl⟩)
                | (go_at_call 78; refine (valid_any _ _).mono ?_; rintro e w' ⟨rfl, rfl⟩))
              go_meet
              exact ⟨congrArg Value.bool (show _ = sizesOk c by simp [sizesOk, h1, h2, h3, h4, h5]), rfl⟩
            · go_wp2_with (first
                | (go_at_call 76; refine (within_any _ _ _ _).mono ?_; rintro e w' ⟨rfl, rfl⟩)
                | (go_at_call 77; refine (power_any _ _ _ _ (by omega) (by omega)).mono ?_; rintro e w' ⟨rfl, rfl⟩)
                | (go_at_call 78; refine (valid_any _ _).mono ?_; rintro e w' ⟨rfl, rfl⟩))
              go_meet
              exact ⟨congrArg Value.bool (show _ = sizesOk c by simp [sizesOk, h1, h2, h3, h4, h5]), rfl⟩
  case' rest => obtain ⟨rfl, rfl⟩ := hcut
  go_upto_region 2 with fail
  go_cut [4] (fun s wx => s = .bool (poolsOk c) ∧ wx = w.alloc (.cells (cc c) 27))
  case first =>
    cases h1 : wi c.slots 1 64
    · go_wp2_with (first
        | (go_at_call 76; refine (within_any _ _ _ _).mono ?_; rintro e w' ⟨rfl, rfl⟩)
        | (go_at_call 77; refine (power_any _ _ _ _ (by omega) (by omega)).mono ?_; rintro e w' ⟨rfl, rfl⟩)
        | (go_at_call 78; refine (valid_any _ _).mono ?_; rintro e w' ⟨rfl, rfl⟩))
      go_meet
      exact ⟨congrArg Value.bool (show _ = poolsOk c by simp [poolsOk, h1]), rfl⟩
    · cases h2 : wi c.versions 2 16
      · go_wp2_with (first
          | (go_at_call 76; refine (within_any _ _ _ _).mono ?_; rintro e w' ⟨rfl, rfl⟩)
          | (go_at_call 77; refine (power_any _ _ _ _ (by omega) (by omega)).mono ?_; rintro e w' ⟨rfl, rfl⟩)
          | (go_at_call 78; refine (valid_any _ _).mono ?_; rintro e w' ⟨rfl, rfl⟩))
        go_meet
        exact ⟨congrArg Value.bool (show _ = poolsOk c by simp [poolsOk, h1, h2]), rfl⟩
      · cases h3 : wi c.queue 1 256
        · go_wp2_with (first
            | (go_at_call 76; refine (within_any _ _ _ _).mono ?_; rintro e w' ⟨rfl, rfl⟩)
            | (go_at_call 77; refine (power_any _ _ _ _ (by omega) (by omega)).mono ?_; rintro e w' ⟨rfl, rfl⟩)
            | (go_at_call 78; refine (valid_any _ _).mono ?_; rintro e w' ⟨rfl, rfl⟩))
          go_meet
          exact ⟨congrArg Value.bool (show _ = poolsOk c by simp [poolsOk, h1, h2, h3]), rfl⟩
        · cases h4 : wi c.evict 1 64
          · go_wp2_with (first
              | (go_at_call 76; refine (within_any _ _ _ _).mono ?_; rintro e w' ⟨rfl, rfl⟩)
              | (go_at_call 77; refine (power_any _ _ _ _ (by omega) (by omega)).mono ?_; rintro e w' ⟨rfl, rfl⟩)
              | (go_at_call 78; refine (valid_any _ _).mono ?_; rintro e w' ⟨rfl, rfl⟩))
            go_meet
            exact ⟨congrArg Value.bool (show _ = poolsOk c by simp [poolsOk, h1, h2, h3, h4]), rfl⟩
          · go_wp2_with (first
              | (go_at_call 76; refine (within_any _ _ _ _).mono ?_; rintro e w' ⟨rfl, rfl⟩)
              | (go_at_call 77; refine (power_any _ _ _ _ (by omega) (by omega)).mono ?_; rintro e w' ⟨rfl, rfl⟩)
              | (go_at_call 78; refine (valid_any _ _).mono ?_; rintro e w' ⟨rfl, rfl⟩))
            go_meet
            exact ⟨congrArg Value.bool (show _ = poolsOk c by simp [poolsOk, h1, h2, h3, h4]), rfl⟩
  case' rest => obtain ⟨rfl, rfl⟩ := hcut
  go_upto_region 3 with fail
  go_cut [5] (fun s wx => s = .bool (timesOk c) ∧ wx = w.alloc (.cells (cc c) 27))
  case first =>
    cases h1 : wi c.idle 1 1000
    · go_wp2_with (first
        | (go_at_call 76; refine (within_any _ _ _ _).mono ?_; rintro e w' ⟨rfl, rfl⟩)
        | (go_at_call 77; refine (power_any _ _ _ _ (by omega) (by omega)).mono ?_; rintro e w' ⟨rfl, rfl⟩)
        | (go_at_call 78; refine (valid_any _ _).mono ?_; rintro e w' ⟨rfl, rfl⟩))
      go_meet
      exact ⟨congrArg Value.bool (show _ = timesOk c by simp [timesOk, h1]), rfl⟩
    · cases h2 : wi c.linger 1 1000
      · go_wp2_with (first
          | (go_at_call 76; refine (within_any _ _ _ _).mono ?_; rintro e w' ⟨rfl, rfl⟩)
          | (go_at_call 77; refine (power_any _ _ _ _ (by omega) (by omega)).mono ?_; rintro e w' ⟨rfl, rfl⟩)
          | (go_at_call 78; refine (valid_any _ _).mono ?_; rintro e w' ⟨rfl, rfl⟩))
        go_meet
        exact ⟨congrArg Value.bool (show _ = timesOk c by simp [timesOk, h1, h2]), rfl⟩
      · cases h3 : wi c.fails 1 10
        · go_wp2_with (first
            | (go_at_call 76; refine (within_any _ _ _ _).mono ?_; rintro e w' ⟨rfl, rfl⟩)
            | (go_at_call 77; refine (power_any _ _ _ _ (by omega) (by omega)).mono ?_; rintro e w' ⟨rfl, rfl⟩)
            | (go_at_call 78; refine (valid_any _ _).mono ?_; rintro e w' ⟨rfl, rfl⟩))
          go_meet
          exact ⟨congrArg Value.bool (show _ = timesOk c by simp [timesOk, h1, h2, h3]), rfl⟩
        · go_wp2_with (first
            | (go_at_call 76; refine (within_any _ _ _ _).mono ?_; rintro e w' ⟨rfl, rfl⟩)
            | (go_at_call 77; refine (power_any _ _ _ _ (by omega) (by omega)).mono ?_; rintro e w' ⟨rfl, rfl⟩)
            | (go_at_call 78; refine (valid_any _ _).mono ?_; rintro e w' ⟨rfl, rfl⟩))
          go_meet
          exact ⟨congrArg Value.bool (show _ = timesOk c by simp [timesOk, h1, h2, h3]), rfl⟩
  case' rest => obtain ⟨rfl, rfl⟩ := hcut
  go_upto_region 4 with fail
  go_cut [6] (fun s wx => s = .bool (ownsOk c) ∧ Below w.heap.size w wx)
  case first =>
    cases h1 : vld c.own
    · go_wp2_with (first
        | (go_at_call 76; refine (within_any _ _ _ _).mono ?_; rintro e w' ⟨rfl, rfl⟩)
        | (go_at_call 77; refine (power_any _ _ _ _ (by omega) (by omega)).mono ?_; rintro e w' ⟨rfl, rfl⟩)
        | (go_at_call 78; refine (valid_any _ _).mono ?_; rintro e w' ⟨rfl, rfl⟩))
      go_meet
      exact ⟨congrArg Value.bool (show _ = ownsOk c by simp [ownsOk, h1]), by repeat (first | exact Below.refl _ _ | refine Below.alloc ?_ (by simp <;> omega) _)⟩
    · cases h2 : vld c.own6
      · go_wp2_with (first
          | (go_at_call 76; refine (within_any _ _ _ _).mono ?_; rintro e w' ⟨rfl, rfl⟩)
          | (go_at_call 77; refine (power_any _ _ _ _ (by omega) (by omega)).mono ?_; rintro e w' ⟨rfl, rfl⟩)
          | (go_at_call 78; refine (valid_any _ _).mono ?_; rintro e w' ⟨rfl, rfl⟩))
        go_meet
        exact ⟨congrArg Value.bool (show _ = ownsOk c by simp [ownsOk, h1, h2]), by repeat (first | exact Below.refl _ _ | refine Below.alloc ?_ (by simp <;> omega) _)⟩
      · cases h3 : c.encap
        · go_wp2_with (first
            | (go_at_call 76; refine (within_any _ _ _ _).mono ?_; rintro e w' ⟨rfl, rfl⟩)
            | (go_at_call 77; refine (power_any _ _ _ _ (by omega) (by omega)).mono ?_; rintro e w' ⟨rfl, rfl⟩)
            | (go_at_call 78; refine (valid_any _ _).mono ?_; rintro e w' ⟨rfl, rfl⟩))
          go_meet
          exact ⟨congrArg Value.bool (show _ = ownsOk c by simp [ownsOk, h1, h2, h3]), by repeat (first | exact Below.refl _ _ | refine Below.alloc ?_ (by simp <;> omega) _)⟩
        · cases h4 : c.own.v6
          · cases h5 : c.own6.v6 <;>
            · go_wp2_with (first
                | (go_at_call 76; refine (within_any _ _ _ _).mono ?_; rintro e w' ⟨rfl, rfl⟩)
                | (go_at_call 77; refine (power_any _ _ _ _ (by omega) (by omega)).mono ?_; rintro e w' ⟨rfl, rfl⟩)
                | (go_at_call 78; refine (valid_any _ _).mono ?_; rintro e w' ⟨rfl, rfl⟩))
              go_meet
              exact ⟨congrArg Value.bool (show _ = ownsOk c by simp [ownsOk, h1, h2, h3, h4, h5]), by repeat (first | exact Below.refl _ _ | refine Below.alloc ?_ (by simp <;> omega) _)⟩
          · go_wp2_with (first
              | (go_at_call 76; refine (within_any _ _ _ _).mono ?_; rintro e w' ⟨rfl, rfl⟩)
              | (go_at_call 77; refine (power_any _ _ _ _ (by omega) (by omega)).mono ?_; rintro e w' ⟨rfl, rfl⟩)
              | (go_at_call 78; refine (valid_any _ _).mono ?_; rintro e w' ⟨rfl, rfl⟩))
            go_meet
            exact ⟨congrArg Value.bool (show _ = ownsOk c by simp [ownsOk, h1, h2, h3, h4]), by repeat (first | exact Below.refl _ _ | refine Below.alloc ?_ (by simp <;> omega) _)⟩
  case rest =>
    obtain ⟨rfl, hb⟩ := hcut
    have HB := Lib.hid hb
    clear hb
    generalize h1 : sizesOk c = b1 at *
    generalize h2 : poolsOk c = b2 at *
    generalize h3 : timesOk c = b3 at *
    generalize h4 : ownsOk c = b4 at *
    cases b1 <;> cases b2 <;> cases b3 <;> cases b4 <;>
    · go_wp2_with fail
      go_ret
      exact ⟨by rw [HK.out]; rfl, HB.out⟩
end Go.Proofs.Ythfgccibiajneaa
