/-
  Texts in one, each behind those that it needs: FamCheckB, FamNew, FamAlike, Bld, FamRoomy.
-/
import Derived.Test.YtgjecemmejaieaaBaf
import Derived.Laws.Tables
import Derived.Laws.NewBlocks
/-
  family.Check and the document's Check.
-/
namespace Go.Proofs.Ytgjecemmejaieaa
open Go.RowKit
/-- What Check tells. -/
def chk (c : Cf) : Int := if cok c = true then 0 else 1
theorem chk_yes (c : Cf) (h : cok c = true) : chk c = 0 := by unfold chk; rw [if_pos h]
theorem chk_no (c : Cf) (h : cok c = false) : chk c = 1 := by unfold chk; rw [h]; rfl
set_option maxRecDepth 100000 in
set_option maxHeartbeats 8000000 in
theorem check_any (c : Cf) (w : World) : Calls Try.prog 40 #[.agg (cc c)] w fun e w' => e = .returned (.int .i64 (chk c)) ∧ Below w.heap.size w w' := by
  have HK := Lib.hid (show chk c = if (sizesOk c && poolsOk c && timesOk c && ownsOk c) = true then 0 else 1 from rfl)
  go_enter Try.func40, Try.ntmps40
  go_upto_region 1 with fail
  go_cut [3] (fun s wx => s = .bool (sizesOk c) ∧ wx = w.alloc (.cells (cc c) 33))
  case first =>
    cases h1 : wi c.stages 1 4
    · go_wp2_with (first
        | (go_at_call 53; refine (within_any _ _ _ _).mono ?_; rintro e w' ⟨rfl, rfl⟩)
        | (go_at_call 54; refine (power_any _ _ _ _ (by omega) (by omega)).mono ?_; rintro e w' ⟨rfl, rfl⟩)
        | (go_at_call 55; refine (valid_any _ _).mono ?_; rintro e w' ⟨rfl, rfl⟩))
      go_meet
      exact ⟨congrArg Value.bool (show _ = sizesOk c by simp [sizesOk, h1]), rfl⟩
    · cases h2 : pw c.size 2 1024
      · go_wp2_with (first
          | (go_at_call 53; refine (within_any _ _ _ _).mono ?_; rintro e w' ⟨rfl, rfl⟩)
          | (go_at_call 54; refine (power_any _ _ _ _ (by omega) (by omega)).mono ?_; rintro e w' ⟨rfl, rfl⟩)
          | (go_at_call 55; refine (valid_any _ _).mono ?_; rintro e w' ⟨rfl, rfl⟩))
        go_meet
        exact ⟨congrArg Value.bool (show _ = sizesOk c by simp [sizesOk, h1, h2]), rfl⟩
      · cases h3 : wi c.digest 1 16
        · go_wp2_with (first
            | (go_at_call 53; refine (within_any _ _ _ _).mono ?_; rintro e w' ⟨rfl, rfl⟩)
            | (go_at_call 54; refine (power_any _ _ _ _ (by omega) (by omega)).mono ?_; rintro e w' ⟨rfl, rfl⟩)
            | (go_at_call 55; refine (valid_any _ _).mono ?_; rintro e w' ⟨rfl, rfl⟩))
          go_meet
          exact ⟨congrArg Value.bool (show _ = sizesOk c by simp [sizesOk, h1, h2, h3]), rfl⟩
        · cases h4 : pw c.bloom 8 65536
          · go_wp2_with (first
              | (go_at_call 53; refine (within_any _ _ _ _).mono ?_; rintro e w' ⟨rfl, rfl⟩)
              | (go_at_call 54; refine (power_any _ _ _ _ (by omega) (by omega)).mono ?_; rintro e w' ⟨rfl, rfl⟩)
              | (go_at_call 55; refine (valid_any _ _).mono ?_; rintro e w' ⟨rfl, rfl⟩))
            go_meet
            exact ⟨congrArg Value.bool (show _ = sizesOk c by simp [sizesOk, h1, h2, h3, h4]), rfl⟩
          · cases h5 : wi c.hashes 1 4
            · go_wp2_with (first
                | (go_at_call 53; refine (within_any _ _ _ _).mono ?_; rintro e w' ⟨rfl, rfl⟩)
                | (go_at_call 54; refine (power_any _ _ _ _ (by omega) (by omega)).mono ?_; rintro e w' ⟨rfl, rfl⟩)
                | (go_at_call 55; refine (valid_any _ _).mono ?_; rintro e w' ⟨rfl, rfl⟩))
              go_meet
              exact ⟨congrArg Value.bool (show _ = sizesOk c by simp [sizesOk, h1, h2, h3, h4, h5]), rfl⟩
            · go_wp2_with (first
                | (go_at_call 53; refine (within_any _ _ _ _).mono ?_; rintro e w' ⟨rfl, rfl⟩)
                | (go_at_call 54; refine (power_any _ _ _ _ (by omega) (by omega)).mono ?_; rintro e w' ⟨rfl, rfl⟩)
                | (go_at_call 55; refine (valid_any _ _).mono ?_; rintro e w' ⟨rfl, rfl⟩))
              go_meet
              exact ⟨congrArg Value.bool (show _ = sizesOk c by simp [sizesOk, h1, h2, h3, h4, h5]), rfl⟩
  case' rest => obtain ⟨rfl, rfl⟩ := hcut
  go_upto_region 2 with fail
  go_cut [4] (fun s wx => s = .bool (poolsOk c) ∧ wx = w.alloc (.cells (cc c) 33))
  case first =>
    cases h1 : wi c.slots 1 64
    · go_wp2_with (first
        | (go_at_call 53; refine (within_any _ _ _ _).mono ?_; rintro e w' ⟨rfl, rfl⟩)
        | (go_at_call 54; refine (power_any _ _ _ _ (by omega) (by omega)).mono ?_; rintro e w' ⟨rfl, rfl⟩)
        | (go_at_call 55; refine (valid_any _ _).mono ?_; rintro e w' ⟨rfl, rfl⟩))
      go_meet
      exact ⟨congrArg Value.bool (show _ = poolsOk c by simp [poolsOk, h1]), rfl⟩
    · cases h2 : wi c.versions 2 16
      · go_wp2_with (first
          | (go_at_call 53; refine (within_any _ _ _ _).mono ?_; rintro e w' ⟨rfl, rfl⟩)
          | (go_at_call 54; refine (power_any _ _ _ _ (by omega) (by omega)).mono ?_; rintro e w' ⟨rfl, rfl⟩)
          | (go_at_call 55; refine (valid_any _ _).mono ?_; rintro e w' ⟨rfl, rfl⟩))
        go_meet
        exact ⟨congrArg Value.bool (show _ = poolsOk c by simp [poolsOk, h1, h2]), rfl⟩
      · cases h3 : wi c.queue 1 256
        · go_wp2_with (first
            | (go_at_call 53; refine (within_any _ _ _ _).mono ?_; rintro e w' ⟨rfl, rfl⟩)
            | (go_at_call 54; refine (power_any _ _ _ _ (by omega) (by omega)).mono ?_; rintro e w' ⟨rfl, rfl⟩)
            | (go_at_call 55; refine (valid_any _ _).mono ?_; rintro e w' ⟨rfl, rfl⟩))
          go_meet
          exact ⟨congrArg Value.bool (show _ = poolsOk c by simp [poolsOk, h1, h2, h3]), rfl⟩
        · cases h4 : wi c.evict 1 64
          · go_wp2_with (first
              | (go_at_call 53; refine (within_any _ _ _ _).mono ?_; rintro e w' ⟨rfl, rfl⟩)
              | (go_at_call 54; refine (power_any _ _ _ _ (by omega) (by omega)).mono ?_; rintro e w' ⟨rfl, rfl⟩)
              | (go_at_call 55; refine (valid_any _ _).mono ?_; rintro e w' ⟨rfl, rfl⟩))
            go_meet
            exact ⟨congrArg Value.bool (show _ = poolsOk c by simp [poolsOk, h1, h2, h3, h4]), rfl⟩
          · go_wp2_with (first
              | (go_at_call 53; refine (within_any _ _ _ _).mono ?_; rintro e w' ⟨rfl, rfl⟩)
              | (go_at_call 54; refine (power_any _ _ _ _ (by omega) (by omega)).mono ?_; rintro e w' ⟨rfl, rfl⟩)
              | (go_at_call 55; refine (valid_any _ _).mono ?_; rintro e w' ⟨rfl, rfl⟩))
            go_meet
            exact ⟨congrArg Value.bool (show _ = poolsOk c by simp [poolsOk, h1, h2, h3, h4]), rfl⟩
  case' rest => obtain ⟨rfl, rfl⟩ := hcut
  go_upto_region 3 with fail
  go_cut [5] (fun s wx => s = .bool (timesOk c) ∧ wx = w.alloc (.cells (cc c) 33))
  case first =>
    cases h1 : wi c.idle 1 1000
    · go_wp2_with (first
        | (go_at_call 53; refine (within_any _ _ _ _).mono ?_; rintro e w' ⟨rfl, rfl⟩)
        | (go_at_call 54; refine (power_any _ _ _ _ (by omega) (by omega)).mono ?_; rintro e w' ⟨rfl, rfl⟩)
        | (go_at_call 55; refine (valid_any _ _).mono ?_; rintro e w' ⟨rfl, rfl⟩))
      go_meet
      exact ⟨congrArg Value.bool (show _ = timesOk c by simp [timesOk, h1]), rfl⟩
    · cases h2 : wi c.linger 1 1000
      · go_wp2_with (first
          | (go_at_call 53; refine (within_any _ _ _ _).mono ?_; rintro e w' ⟨rfl, rfl⟩)
          | (go_at_call 54; refine (power_any _ _ _ _ (by omega) (by omega)).mono ?_; rintro e w' ⟨rfl, rfl⟩)
          | (go_at_call 55; refine (valid_any _ _).mono ?_; rintro e w' ⟨rfl, rfl⟩))
        go_meet
        exact ⟨congrArg Value.bool (show _ = timesOk c by simp [timesOk, h1, h2]), rfl⟩
      · cases h3 : wi c.fails 1 10
        · go_wp2_with (first
            | (go_at_call 53; refine (within_any _ _ _ _).mono ?_; rintro e w' ⟨rfl, rfl⟩)
            | (go_at_call 54; refine (power_any _ _ _ _ (by omega) (by omega)).mono ?_; rintro e w' ⟨rfl, rfl⟩)
            | (go_at_call 55; refine (valid_any _ _).mono ?_; rintro e w' ⟨rfl, rfl⟩))
          go_meet
          exact ⟨congrArg Value.bool (show _ = timesOk c by simp [timesOk, h1, h2, h3]), rfl⟩
        · go_wp2_with (first
            | (go_at_call 53; refine (within_any _ _ _ _).mono ?_; rintro e w' ⟨rfl, rfl⟩)
            | (go_at_call 54; refine (power_any _ _ _ _ (by omega) (by omega)).mono ?_; rintro e w' ⟨rfl, rfl⟩)
            | (go_at_call 55; refine (valid_any _ _).mono ?_; rintro e w' ⟨rfl, rfl⟩))
          go_meet
          exact ⟨congrArg Value.bool (show _ = timesOk c by simp [timesOk, h1, h2, h3]), rfl⟩
  case' rest => obtain ⟨rfl, rfl⟩ := hcut
  go_upto_region 4 with fail
  go_cut [6] (fun s wx => s = .bool (ownsOk c) ∧ Below w.heap.size w wx)
  case first =>
    cases h1 : vld c.own
    · go_wp2_with (first
        | (go_at_call 53; refine (within_any _ _ _ _).mono ?_; rintro e w' ⟨rfl, rfl⟩)
        | (go_at_call 54; refine (power_any _ _ _ _ (by omega) (by omega)).mono ?_; rintro e w' ⟨rfl, rfl⟩)
        | (go_at_call 55; refine (valid_any _ _).mono ?_; rintro e w' ⟨rfl, rfl⟩))
      go_meet
      exact ⟨congrArg Value.bool (show _ = ownsOk c by simp [ownsOk, h1]), by repeat (first | exact Below.refl _ _ | refine Below.alloc ?_ (by simp <;> omega) _)⟩
    · cases h2 : vld c.own6
      · go_wp2_with (first
          | (go_at_call 53; refine (within_any _ _ _ _).mono ?_; rintro e w' ⟨rfl, rfl⟩)
          | (go_at_call 54; refine (power_any _ _ _ _ (by omega) (by omega)).mono ?_; rintro e w' ⟨rfl, rfl⟩)
          | (go_at_call 55; refine (valid_any _ _).mono ?_; rintro e w' ⟨rfl, rfl⟩))
        go_meet
        exact ⟨congrArg Value.bool (show _ = ownsOk c by simp [ownsOk, h1, h2]), by repeat (first | exact Below.refl _ _ | refine Below.alloc ?_ (by simp <;> omega) _)⟩
      · cases h3 : c.encap
        · go_wp2_with (first
            | (go_at_call 53; refine (within_any _ _ _ _).mono ?_; rintro e w' ⟨rfl, rfl⟩)
            | (go_at_call 54; refine (power_any _ _ _ _ (by omega) (by omega)).mono ?_; rintro e w' ⟨rfl, rfl⟩)
            | (go_at_call 55; refine (valid_any _ _).mono ?_; rintro e w' ⟨rfl, rfl⟩))
          go_meet
          exact ⟨congrArg Value.bool (show _ = ownsOk c by simp [ownsOk, h1, h2, h3]), by repeat (first | exact Below.refl _ _ | refine Below.alloc ?_ (by simp <;> omega) _)⟩
        · cases h4 : c.own.v6
          · cases h5 : c.own6.v6 <;>
            · go_wp2_with (first
                | (go_at_call 53; refine (within_any _ _ _ _).mono ?_; rintro e w' ⟨rfl, rfl⟩)
                | (go_at_call 54; refine (power_any _ _ _ _ (by omega) (by omega)).mono ?_; rintro e w' ⟨rfl, rfl⟩)
                | (go_at_call 55; refine (valid_any _ _).mono ?_; rintro e w' ⟨rfl, rfl⟩))
              go_meet
              exact ⟨congrArg Value.bool (show _ = ownsOk c by simp [ownsOk, h1, h2, h3, h4, h5]), by repeat (first | exact Below.refl _ _ | refine Below.alloc ?_ (by simp <;> omega) _)⟩
          · go_wp2_with (first
              | (go_at_call 53; refine (within_any _ _ _ _).mono ?_; rintro e w' ⟨rfl, rfl⟩)
              | (go_at_call 54; refine (power_any _ _ _ _ (by omega) (by omega)).mono ?_; rintro e w' ⟨rfl, rfl⟩)
              | (go_at_call 55; refine (valid_any _ _).mono ?_; rintro e w' ⟨rfl, rfl⟩))
            go_meet
            exact ⟨congrArg Value.bool (show _ = ownsOk c by simp [ownsOk, h1, h2, h3, h4]), by repeat (first | exact Below.refl _ _ | refine Below.alloc ?_ (by simp <;> omega) _)⟩
  case rest =>
    obtain ⟨rfl, hb⟩ := hcut
    have HB := Lib.hid hb
    clear hb
    generalize h1 : sizesOk c = b1 at *
    generalize h2 : poolsOk c = b2 at *
    generalize h3 : timesOk c = b3 at *
    generalize h4 : ownsOk c = b4 at *
    cases b1 <;> cases b2 <;> cases b3 <;> cases b4 <;>
    · go_wp2_with fail
      go_ret
      exact ⟨by rw [HK.out]; rfl, HB.out⟩
end Go.Proofs.Ytgjecemmejaieaa

/-
  family.New; some flows and configurations of the statements.
-/
namespace Go.Proofs.Ytgjecemmejaieaa
open Go.RowKit
set_option maxRecDepth 100000 in
set_option maxHeartbeats 4000000 in
theorem new_bad (c : Cf) (w : World) (h : cok c = false) : Calls Try.prog 23 #[.agg (cc c)] w fun e w' => e = .returned (.tuple #[.pointer none, .int .i64 1]) ∧ Below w.heap.size w w' := by
  have H := Lib.hid (chk_no c h)
  go_enter Try.func23, Try.ntmps23
  go_wp2_with fail
  refine (check_any c _).mono ?_
  rintro e w1 ⟨rfl, hb⟩
  rw [H.out]
  go_wp2_with fail
  go_ret2
  exact ⟨rfl, step_below ((Below.refl _ w).alloc (Nat.le_refl _) _) hb⟩
/-- A family's cells when so many tables are made. -/
def zt : Array Value := Array.replicate 256 (.int .u32 0)
def fcu (c : Cf) (k : Nat) : Array Value := cc c ++ (if 0 < k then tabv (poly 0) else zt) ++ (if 1 < k then tabv (poly 1) else zt) ++ (if 2 < k then tabv (poly 2) else zt) ++ (if 3 < k then tabv (poly 3) else zt)
theorem fcu_4 (c : Cf) : fcu c 4 = fc c := rfl
theorem sets_get : ∀ (l : List Value) (o : Nat) (z : Array Value) (j : Nat), o + l.length ≤ z.size →
    (List.foldl (fun (cs : Array Value) (x : Value × Nat) => cs.setIfInBounds x.snd x.fst) z (l.zipIdx o))[j]? = if o ≤ j ∧ j < o + l.length then l[j - o]? else z[j]?
  | [], o, z, j, _ => by rw [if_neg (fun h => by have := h.2; simp only [List.length_nil] at this; omega)]; rfl
  | v :: r, o, z, j, h => by
    simp only [List.length_cons] at h
    rw [List.zipIdx_cons, List.foldl_cons, sets_get r (o + 1) _ j (by rw [Array.size_setIfInBounds]; omega), Array.getElem?_setIfInBounds]
    simp only [List.length_cons]
    by_cases h1 : o + 1 ≤ j ∧ j < o + 1 + r.length
    · rw [if_pos h1, if_pos (by omega), show j - o = (j - (o + 1)) + 1 by omega, List.getElem?_cons_succ]
    · rw [if_neg h1]
      by_cases h2 : o = j
      · subst h2
        rw [if_pos rfl, if_pos (by omega), if_pos (by omega), Nat.sub_self]; rfl
      · rw [if_neg h2, if_neg (by omega)]
theorem zeros_tail : Try.zeroCells100.size = 1072 ∧ Try.zeroCells100.toList.drop 48 = List.replicate 1024 (.int .u32 0) := ⟨by kernel_rfl, by kernel_rfl⟩
theorem fam_start (c : Cf) : Array.foldl (fun (cs : Array Value) (x : Value × Nat) => cs.setIfInBounds x.snd x.fst) Try.zeroCells100 (cc c).zipIdx 0 48 = fcu c 0 := by
  obtain ⟨hz1, hz2⟩ := zeros_tail
  generalize Try.zeroCells100 = z at *
  have hzt : zt.size = 256 := by simp [zt]
  have e1 : Array.foldl (fun (cs : Array Value) (x : Value × Nat) => cs.setIfInBounds x.snd x.fst) z (cc c).zipIdx 0 48 = List.foldl (fun (cs : Array Value) (x : Value × Nat) => cs.setIfInBounds x.snd x.fst) z (c.l.zipIdx 0) := by
    have hs : (cc c).zipIdx.size = 48 := by simp [cc_size]
    conv => lhs; rw [← hs]
    rw [← Array.foldl_toList]
    simp [cc]
  rw [e1]
  apply Array.ext_getElem?
  intro j
  rw [sets_get _ _ _ _ (by rw [Cf.l_length]; omega), Cf.l_length]
  unfold fcu
  simp only [Nat.lt_irrefl, Nat.not_lt_zero, if_false]
  by_cases hj : j < 48
  · rw [if_pos (by omega), Array.getElem?_append_left (by simp [cc_size, hzt]; omega), Array.getElem?_append_left (by simp [cc_size, hzt]; omega), Array.getElem?_append_left (by simp [cc_size, hzt]; omega), Array.getElem?_append_left (by simp [cc_size]; omega), cl_get, Nat.sub_zero]
  · rw [if_neg (by omega)]
    have hz : z[j]? = if j < 1072 then some (.int .u32 0) else none := by
      have h1 : (z.toList.drop 48)[j - 48]? = z[j]? := by rw [List.getElem?_drop, Array.getElem?_toList, show 48 + (j - 48) = j by omega]
      rw [← h1, hz2, List.getElem?_replicate]
      by_cases hb : j < 1072
      · rw [if_pos hb, if_pos (by omega)]
      · rw [if_neg hb, if_neg (by omega)]
    rw [hz]
    have hq : (cc c ++ zt ++ zt ++ zt ++ zt) = cc c ++ Array.replicate 1024 (Value.int .u32 0) := by
      simp [zt, Array.append_assoc]
    rw [hq, Array.getElem?_append_right (by rw [cc_size]; omega), Array.getElem?_replicate, cc_size]
    by_cases hb : j < 1072
    · rw [if_pos hb, if_pos (by omega)]
    · rw [if_neg hb, if_neg (by omega)]
theorem splice_mid (A B B' C : Array Value) (h : B'.size = B.size) : splice (A ++ B ++ C) A.size B'.toList = A ++ B' ++ C := by
  apply Array.ext_getElem?
  intro j
  rw [splice_get _ _ _ _ (by simp; omega)]
  simp only [Array.length_toList]
  by_cases h1 : A.size ≤ j ∧ j < A.size + B'.size
  · rw [if_pos h1, Array.getElem?_append_left (by simp; omega), Array.getElem?_append_right (by omega), Array.getElem?_toList]
  · rw [if_neg h1]
    by_cases h2 : j < A.size
    · rw [Array.getElem?_append_left (by simp; omega), Array.getElem?_append_left h2, Array.getElem?_append_left (by simp; omega), Array.getElem?_append_left h2]
    · rw [Array.getElem?_append_right (by simp; omega), Array.getElem?_append_right (by simp; omega)]
      simp [h]
theorem zt_size : zt.size = 256 := by simp [zt]
theorem fcu_size (c : Cf) (k : Nat) : (fcu c k).size = 1072 := by
  unfold fcu
  simp only [Array.size_append, cc_size]
  repeat' split
  all_goals simp [tabv_size, zt_size]
theorem fcu_step (c : Cf) (k : Nat) (hk : k < 4) : splice (fcu c k) (48 + k * 256) (tabv (poly k)).toList = fcu c (k + 1) := by
  have ht := zt_size
  have hk4 : k = 0 ∨ k = 1 ∨ k = 2 ∨ k = 3 := by omega
  rcases hk4 with rfl | rfl | rfl | rfl
  · have := splice_mid (cc c) zt (tabv (poly 0)) (zt ++ zt ++ zt) (by rw [tabv_size, ht])
    rw [cc_size] at this
    simpa [fcu, Array.append_assoc] using this
  · have := splice_mid (cc c ++ tabv (poly 0)) zt (tabv (poly 1)) (zt ++ zt) (by rw [tabv_size, ht])
    rw [Array.size_append, cc_size, tabv_size] at this
    simpa [fcu, Array.append_assoc] using this
  · have := splice_mid (cc c ++ tabv (poly 0) ++ tabv (poly 1)) zt (tabv (poly 2)) zt (by rw [tabv_size, ht])
    rw [Array.size_append, Array.size_append, cc_size, tabv_size, tabv_size] at this
    simpa [fcu, Array.append_assoc] using this
  · have := splice_mid (cc c ++ tabv (poly 0) ++ tabv (poly 1) ++ tabv (poly 2)) zt (tabv (poly 3)) #[] (by rw [tabv_size, ht])
    rw [Array.size_append, Array.size_append, Array.size_append, cc_size, tabv_size, tabv_size, tabv_size] at this
    simpa [fcu, Array.append_assoc] using this
theorem tab_size : (Try.prog.info? 97).map (·.size) = some 256 := size26
theorem tabv_one (p : Nat) : (tabv p).all (·.oneCell') = true := tabk_one p 256
def kcells : Array Value := #[.int .u32 (poly 0 : Nat), .int .u32 (poly 1 : Nat), .int .u32 (poly 2 : Nat), .int .u32 (poly 3 : Nat)]
theorem kcells_get (k : Nat) (h : k < 4) : kcells[k]? = some (.int .u32 (poly k : Nat)) := by
  have hk4 : k = 0 ∨ k = 1 ∨ k = 2 ∨ k = 3 := by omega
  rcases hk4 with rfl | rfl | rfl | rfl <;> rfl
set_option maxRecDepth 100000 in
set_option maxHeartbeats 4000000 in
theorem new_ok (c : Cf) (w : World) (h : cok c = true) : Calls Try.prog 23 #[.agg (cc c)] w fun e w' => ∃ gf, e = .returned (.tuple #[.pointer (some ⟨gf, 0, none⟩), .int .i64 0]) ∧ w.heap.size ≤ gf ∧ At w' gf 100 (fc c) ∧ Below w.heap.size w w' := by
  have H := Lib.hid (chk_yes c h)
  go_enter Try.func23, Try.ntmps23
  go_wp2_with fail
  refine (check_any c _).mono ?_
  rintro e w1 ⟨rfl, hb⟩
  rw [H.out]
  have hA := (At.new w 33 (cc c)).below hb (by simp)
  have HB := Lib.hid (step_below ((Below.refl _ w).alloc (Nat.le_refl _) _) hb)
  have hr := hA.row
  have ho := hA.open
  have hl := hA.lt
  clear hA hb
  go_wp2_with fail
  rw [fam_start]
  refine (known_any _).mono ?_
  rintro e w2 ⟨rfl, rfl⟩
  have hF := (At.new w1 100 (fcu c 0)).alloc (.cells kcells 31)
  have hT := (show At ((w1.alloc (.cells (fcu c 0) 100)).alloc (.cells kcells 31)) (w1.heap.size + 1) 31 kcells from at_new _ _ _ _ (by simp))
  have hB2 := ((HB.out.alloc HB.out.size (.cells (fcu c 0) 100)).alloc (by have := HB.out.size; simp; omega) (.cells kcells 31))
  unfold kcells at hF hT hB2
  obtain ⟨w2, hw2⟩ : ∃ w2, w2 = (w1.alloc (.cells (fcu c 0) 100)).alloc (.cells #[.int .u32 (poly 0 : Nat), .int .u32 (poly 1 : Nat), .int .u32 (poly 2 : Nat), .int .u32 (poly 3 : Nat)] 31) := ⟨_, rfl⟩
  rw [← hw2] at hF hT hB2
  rw [← hw2, World.size_alloc]
  obtain ⟨gf, hgf⟩ : ∃ g, g = w1.heap.size := ⟨_, rfl⟩
  obtain ⟨gk, hgk⟩ : ∃ g, g = w1.heap.size + 1 := ⟨_, rfl⟩
  have hne : ¬ gk = gf := by omega
  have hwf : w.heap.size ≤ gf := by have := HB.out.size; omega
  rw [← hgk] at hT
  rw [← hgf] at hF
  rw [← hgk, ← hgf]
  have HF := Lib.hid hF
  have HT := Lib.hid (show At w2 gk 31 kcells from hT)
  have HB2 := Lib.hid hB2
  clear hF hT hB2 hw2 hgf hgk hr ho hl
  go_wp2_with fail
  go_loopw [6, 7, 18] (fun _ _ i wr => ∃ k : Nat, k ≤ 4 ∧ i = .int .i64 k ∧ At wr gf 100 (fcu c k) ∧ At wr gk 31 kcells ∧ Below w.heap.size w wr) (fun _ _ i _ => 4 - (intOf i).toNat)
  case atStart => exact ⟨0, by omega, rfl, HF.out, HT.out, HB2.out⟩
  case round =>
    obtain ⟨k, hk, rfl, hf, ht, hb⟩ := hrel
    have HF3 := Lib.hid hf
    have HT3 := Lib.hid ht
    have HB3 := Lib.hid hb
    clear hf ht hb
    by_cases hlt : k < 4
    · have hc := HT3.out.cell k
      rw [kcells_get k hlt] at hc
      have hl := HT3.out.lt
      have hfl := HF3.out.lt
      have hpl := poly_lt k
      go_wp2_with fail
      refine region_sq (fun i => i = gf) [(0, true), (1, true), (2, true), (4, true), (5, true), (3, false), (6, true), (7, false)] (by kernel_rfl) (by kernel_rfl) (fun _ _ d _ _ h => by cases d <;> exact h) ?_
      repeat (first
        | (refine sq_yes rfl (by rfl) (fun w' hM => by ((try replace hM := hM.of_drew); obtain ⟨hR1, hR2, hR3⟩ := hM.rules; clear hM; go_simp; with_reducible rfl)) ?_; simp only [Act.put, List.setIfInBounds_toArray, List.set_cons_zero, List.set_cons_succ])
        | (refine sq_no rfl (by rfl) ?_; simp only [Act.put, List.setIfInBounds_toArray, List.set_cons_zero, List.set_cons_succ]))
      refine sq_do_yes rfl (by rfl) (fun K hK => ?_)
      go_wp2_with fail
      refine (make_any (poly k) hpl _).mono ?_
      rintro e w4 ⟨rfl, rfl⟩
      go_wp2_with fail
      refine ⟨Mod.alloc_drew _ _, ?_⟩
      repeat (first
        | (refine sq_yes rfl (by rfl) (fun w' hM => by ((try replace hM := hM.of_drew); obtain ⟨hR1, hR2, hR3⟩ := hM.rules; clear hM; go_simp; with_reducible rfl)) ?_; simp only [Act.put, List.setIfInBounds_toArray, List.set_cons_zero, List.set_cons_succ])
        | (refine sq_no rfl (by rfl) ?_; simp only [Act.put, List.setIfInBounds_toArray, List.set_cons_zero, List.set_cons_succ]))
      refine sq_do_yes rfl (by rfl) (fun K hK => ?_)
      refine wp_store_agg gf (48 + k * 256) 100 (fcu c k) (tabv (poly k)) ((HF3.out.alloc _).drew) (by rw [fcu_size, tabv_size]; omega) (by rw [tabv_size]; exact size26) (tabv_one _) rfl rfl rfl ?_
      refine hK _ _ ⟨Mod.setCells (M := fun i => i = gf) rfl _ _ _, ?_⟩
      simp only [Act.put]
      refine sq_end ?_
      have HF4 := Lib.hid (At.setCells (tabv (poly k)).toList (48 + k * 256) _ _ (HF3.out.alloc (.cells (tabv (poly k)) 97)).drew)
      have HT4 := Lib.hid ((HT3.out.alloc (.cells (tabv (poly k)) 97)).drew.mod (Mod.setCells (M := fun i => i = gf) rfl (tabv (poly k)).toList (48 + k * 256) _) hne)
      have HB4 := Lib.hid ((HB3.out.alloc HB3.out.size (.cells (tabv (poly k)) 97)).drew.trans (mod_below (Mod.setCells (M := fun i => i = gf) rfl (tabv (poly k)).toList (48 + k * 256) _) ((HB3.out.alloc HB3.out.size (.cells (tabv (poly k)) 97)).drew).size (fun j hj => by omega)))
      generalize (wr.alloc (.cells (tabv (poly k)) 97)).drew.setCells gf (48 + k * 256) (tabv (poly k)).toList = w5 at *
      rw [fcu_step c k hlt] at HF4
      go_wp2_with fail
      go_roundw
      case rel => exact ⟨k + 1, by omega, by go_num, HF4.out, HT4.out, HB4.out⟩
      case measure => simp [intOf]; omega
    · obtain rfl : k = 4 := by omega
      go_wp2_with fail
      go_ret2
      exact ⟨gf, rfl, hwf, by rw [← fcu_4]; exact HF3.out, HB3.out⟩
end Go.Proofs.Ytgjecemmejaieaa

/-
  What the statements share: Round, Ints, at.
-/
namespace Go.Proofs.Ytgjecemmejaieaa
open Go.RowKit
theorem rem_round2 (k n : Int) (h1 : 0 < n) (h2 : n ≤ 1099511627776) : (wrap64 (k.tmod n + n)).tmod n = k % n := by
  have h3 := Int.tmod_lt_of_pos k h1
  have h4 := tmod_gt k n h1
  have h5 : wrap64 (k.tmod n + n) = k.tmod n + n := IntWalk.wrap64_in _ ⟨by omega, by omega⟩
  rw [h5, Int.tmod_eq_emod_of_nonneg (by omega), Int.add_emod_right, Int.tmod_eq_emod]
  split
  · simp
  · rw [← Int.eq_natAbs_of_nonneg (by omega)]; simp
theorem round_big (k n : Int) (h1 : 0 < n) (h2 : n ≤ 1099511627776) (w : World) :
    Calls Try.prog 9 #[.int .i64 k, .int .i64 n] w fun e w' => e = .returned (.int .i64 (k % n)) ∧ w' = w := by
  have H := Lib.hid (rem_round2 k n h1 h2)
  go_enter Try.func9, Try.ntmps9
  go_wp2
  go_ret
  exact ⟨by simp [H.out], rfl⟩
/-- One of some numbers, from 0 to ahead of N. -/
def atOf (l : List Int) (i N : Nat) : Int := if l.length = 0 then 0 else wrap64 (l.getD (i % l.length) 0 + ((i / l.length : Nat) : Int)) % N
theorem atOf_nil (l : List Int) (i N : Nat) (h : l.length = 0) : atOf l i N = 0 := by unfold atOf; rw [if_pos h]
theorem atOf_cons (l : List Int) (i N : Nat) (h : ¬ l.length = 0) : atOf l i N = wrap64 (l.getD (i % l.length) 0 + ((i / l.length : Nat) : Int)) % N := by unfold atOf; rw [if_neg h]
theorem atOf_bounds (l : List Int) (i N : Nat) (h : 0 < N) : 0 ≤ atOf l i N ∧ atOf l i N < N := by
  unfold atOf
  split
  · omega
  · exact ⟨Int.emod_nonneg _ (by omega), Int.emod_lt_of_pos _ (by omega)⟩
set_option maxRecDepth 100000 in
set_option maxHeartbeats 2000000 in
theorem at_any (a : Option Addr) (n c : Nat) (l : List Int) (i N : Nat) (w : World) (h : Ints w a n l) (hn : n ≤ 1000000) (hi : i ≤ 1000) (h1 : 0 < N) (h2 : N ≤ 1000000) :
    Calls Try.prog 28 #[.slice a n c, .int .i64 i, .int .i64 N] w fun e w' => e = .returned (.int .i64 (atOf l i N)) ∧ Below w.heap.size w w' := by
  obtain ⟨hl, hc⟩ := h
  by_cases h0 : n = 0
  · subst h0
    have H := Lib.hid (atOf_nil l i N hl)
    clear hl hc
    go_enter Try.func28, Try.ntmps28
    go_wp2_with fail
    go_ret
    exact ⟨by rw [H.out]; rfl, Below.refl _ _⟩
  · obtain ⟨b, o, rfl, hb, hcell⟩ := hc (by omega)
    have H := Lib.hid (atOf_cons l i N (by omega))
    obtain ⟨q, hq⟩ : ∃ q : Nat, q = i / n := ⟨_, rfl⟩
    obtain ⟨r, hr⟩ : ∃ r : Nat, r = i % n := ⟨_, rfl⟩
    have hrn : r < n := by rw [hr]; exact Nat.mod_lt _ (by omega)
    have hqi : q ≤ i := by rw [hq]; exact Nat.div_le_self _ _
    have hcr := hcell r hrn
    obtain ⟨x, hx⟩ : ∃ x, x = l.getD r 0 := ⟨_, rfl⟩
    rw [← hx] at hcr
    rw [hl, ← hq, ← hr, ← hx] at H
    have hx1 : (i : Int).tmod (n : Int) = (r : Int) := by rw [Int.tmod_eq_emod_of_nonneg (Int.natCast_nonneg i), ← Int.natCast_emod, ← hr]
    have hx2 : IntKind.i64.wrap ((i : Int) / (n : Int)) = (q : Int) := by rw [← Int.natCast_ediv, ← hq, IntKind.wrap_i64]; omega
    have hx3 : ((n : Int) == 0) = false := by simp; omega
    have hx4 : IntKind.i64.wrap (x + (q : Int)) = wrap64 (x + (q : Int)) := by rw [IntKind.wrap_i64]; unfold wrap64; first | rfl | omega
    have hz : ¬ n = 0 := h0
    clear hc hcell hq hr hx hl hqi
    go_enter Try.func28, Try.ntmps28
    go_wp2_with fail
    refine region_sq (fun _ => False) [(0, true), (1, true), (2, true), (3, true), (4, true), (5, true), (6, true), (7, true), (8, true), (9, true), (10, true), (11, true), (12, true), (13, false), (14, true)] (by kernel_rfl) (by kernel_rfl) (fun _ _ d _ _ h => by cases d <;> exact h) ?_
    repeat (first
      | (refine sq_yes rfl (by rfl) (fun w' hM => by ((try replace hM := hM.of_drew); obtain ⟨hR1, hR2, hR3⟩ := hM.rules; clear hM; go_simp; with_reducible rfl)) ?_; simp only [Act.put, List.setIfInBounds_toArray, List.set_cons_zero, List.set_cons_succ])
      | (refine sq_no rfl (by rfl) ?_; simp only [Act.put, List.setIfInBounds_toArray, List.set_cons_zero, List.set_cons_succ]))
    clear hx1 hx2 hx3 hx4
    refine sq_do_yes rfl (by rfl) (fun K hK => ?_)
    go_wp2_with fail
    refine (round_big (wrap64 (x + (q : Int))) N (by omega) (by omega) _).mono ?_
    rintro e w1 ⟨rfl, rfl⟩
    go_wp2_with fail
    refine ⟨Mod.refl _ _, ?_⟩
    repeat (first
      | (refine sq_yes rfl (by rfl) (fun w' hM => by ((try replace hM := hM.of_drew); obtain ⟨hR1, hR2, hR3⟩ := hM.rules; clear hM; go_simp; with_reducible rfl)) ?_; simp only [Act.put, List.setIfInBounds_toArray, List.set_cons_zero, List.set_cons_succ])
      | (refine sq_no rfl (by rfl) ?_; simp only [Act.put, List.setIfInBounds_toArray, List.set_cons_zero, List.set_cons_succ]))
    refine sq_end ?_
    go_wp2_with fail
    go_ret
    exact ⟨by rw [H.out]; rfl, (Below.refl _ _).drew⟩
end Go.Proofs.Ytgjecemmejaieaa

/-
  A struct or array made of parts, as one step whose cells keep their name; stores of whole structs into blocks made last.
-/
namespace Go.Proofs.Ytgjecemmejaieaa
open Go.RowKit
/-- What a build comes to, kept from the walk's own words. -/
def bldX (P : Program) (t : TypeId) (X : Array (Nat × Value)) (w : World) : Result Next := (do let x ← Instr.build t X; pure (Next.value x) : Sem Next).run P w
theorem exec_bld (P : Program) (t : TypeId) (parts : Array (Nat × Operand)) (dst : Option Tmp) (ty : TypeId) (pos : String) (after : Array Edge) (g : Option (Nat × Bool)) (f : Operand → Value) (w : World) :
    (execOp f ⟨dst, .build t parts, ty, pos, after, g⟩).run P w = bldX P t (parts.map fun (i, x) => (i, f x)) w := rfl
theorem bldX_of {P : Program} {t : TypeId} {X : Array (Nat × Value)} {C : Array Value} (w : World) (h : P.built t X.toList = some C) : bldX P t X w = .ok (.value (.agg C)) w := by
  unfold bldX
  simp only [Sem.run_bind, run_build w t X C h, Result.andThen_ok, Sem.run_pure]
/-- A store of a whole array or struct in a plain row of operations. -/
theorem wpList_store_agg {P : Program} {ops : Array Oper} {rest : List Oper} {o : Oper} {a : Go.Act} {Q : Exit → Go.Act → World → Prop} {w : World} (hgd : o.guard = none) (ty : TypeId) (x y : Operand) (ho : o.op = .store ty x y) (b off : Nat) (t : TypeId) (cs : Array Value) (vs : Array Value)
    (hx : a.eval x = .pointer (some ⟨b, off, none⟩)) (hy : a.eval y = .agg vs) (h : At w b t cs) (hs : off + vs.size ≤ cs.size)
    (hi : (P.info? ty).map (·.size) = some vs.size) (h1 : vs.all (·.oneCell') = true)
    (hK : wpList P ops Q rest (a.put o.dst undef) (w.setCells b off vs.toList)) : wpList P ops Q (o :: rest) a w :=
  wpList_plain hgd fun _ hK' => wp_store_agg b off t cs vs h hs hi h1 ho hx hy (hK' _ _ hK)
theorem store_new {P : Program} {t : TypeId} {k : Nat} (hk : (P.info? t).map (·.size) = some k) (w : World) (n : Nat) (Z C : Array Value) (hn : n = w.heap.size) (hZ : Z.size = k) (hC : C.size = k) (h1 : C.all (·.oneCell') = true) : (storeCells ⟨n, 0, none⟩ C.toList 0).run P (w.alloc (.cells Z t)) = .ok () (w.alloc (.cells C t)) := by
  subst hn
  exact run_storeCells_new (P := P) w t _ C (by rw [hC]; exact hk) (by rw [hC, hZ]) h1
theorem setCells_new (w : World) (t : TypeId) : ∀ (L : List Value) (o : Nat) (Z : Array Value), (w.alloc (.cells Z t)).setCells w.heap.size o L = w.alloc (.cells (splice Z o L) t)
  | [], _, _ => rfl
  | v :: r, o, Z => by rw [World.setCells, World.setCell_alloc_at _ _ _ _ _ rfl, setCells_new w t r (o + 1) _]; rfl
theorem setCells_past (ob : Obj) (n : Nat) : ∀ (L : List Value) (o : Nat) (w : World), n < w.heap.size → (w.alloc ob).setCells n o L = (w.setCells n o L).alloc ob
  | [], _, _, _ => rfl
  | v :: r, o, w, h => by rw [World.setCells, World.setCell_alloc_past _ _ _ _ h, setCells_past ob n r (o + 1) _ (by simpa [World.setCell] using h)]; rfl
theorem store_at {P : Program} (w : World) (b off : Nat) (t : TypeId) (cs C : Array Value) (h : At w b t cs) (hs : off + C.size ≤ cs.size) (h1 : C.all (·.oneCell') = true) : (storeCells ⟨b, off, none⟩ C.toList 0).run P w = .ok () (w.setCells b off C.toList) := by
  have hst := run_storeCells_cells (P := P) b off C.toList 0 w (fun j hj => by
      rw [cell_of_row w b _ cs t (0, 0) h, Array.getElem?_eq_getElem (by simp at hj; omega)]; rfl) (fun j hj => frozen_of_row w b _ cs t h) (fun v hv => by
      rw [Array.all_eq_true'] at h1
      exact h1 v (by simpa using hv))
  simpa only [Nat.add_zero] using hst
/-- Into the midst of the block that was made last. -/
theorem store_mid {P : Program} (w : World) (n off : Nat) (t : TypeId) (Z C : Array Value) (hn : n = w.heap.size) (hs : off + C.size ≤ Z.size) (h1 : C.all (·.oneCell') = true) : (storeCells ⟨n, off, none⟩ C.toList 0).run P (w.alloc (.cells Z t)) = .ok () (w.alloc (.cells (splice Z off C.toList) t)) := by
  rw [store_at (P := P) _ n off t Z C (at_new _ _ _ _ hn) hs h1]
  subst hn
  rw [setCells_new]
theorem splice_all (Z C : Array Value) (h : C.size = Z.size) : splice Z 0 C.toList = C := by
  apply Array.ext_getElem?
  intro j
  rw [splice_get _ _ _ _ (by simp; omega)]
  by_cases hj : j < C.size
  · rw [if_pos (by simp; omega)]; simp
  · rw [if_neg (by simp; omega), Array.getElem?_eq_none (by omega), Array.getElem?_eq_none (by omega)]
/-- Into the block made last but one, whole. -/
theorem store_second {P : Program} (w : World) (n : Nat) (t : TypeId) (Z C : Array Value) (ob : Obj) (hn : n = w.heap.size) (hs : C.size = Z.size) (h1 : C.all (·.oneCell') = true) : (storeCells ⟨n, 0, none⟩ C.toList 0).run P ((w.alloc (.cells Z t)).alloc ob) = .ok () ((w.alloc (.cells C t)).alloc ob) := by
  rw [store_at (P := P) _ n 0 t Z C ((at_new _ _ _ _ hn).alloc ob) (by omega) h1, setCells_past ob n _ _ _ (by simp; omega)]
  subst hn
  rw [setCells_new, splice_all _ _ hs]
end Go.Proofs.Ytgjecemmejaieaa

/-
  Roomy: a configuration in which nothing coincides that needs not.
-/
namespace Go.Proofs.Ytgjecemmejaieaa
open Go.RowKit
def adr0 (v6 : Bool) : Adr := ⟨v6, List.replicate 16 0, by simp, fun x hx => by have := List.eq_of_mem_replicate hx; omega⟩
def roomyOf (m : Nat) (h : m < 4294967296) : Cf := ⟨4, 256, 16, 65536, 4, 32, 16, 256, 64, 1000, 2, 2, false, adr0 false, adr0 true, m, h⟩
def roomy (s : Int) : Cf := roomyOf (s % 1073741824).toNat (by omega)
def zer : List Value := [.int .u8 0, .int .u8 0, .int .u8 0, .int .u8 0, .int .u8 0, .int .u8 0, .int .u8 0, .int .u8 0, .int .u8 0, .int .u8 0, .int .u8 0, .int .u8 0, .int .u8 0, .int .u8 0, .int .u8 0, .int .u8 0]
theorem adr0_l (v6 : Bool) : (adr0 v6).l = .bool v6 :: zer := by cases v6 <;> rfl
theorem roomy_cells (m : Nat) (h : m < 4294967296) : (cc (roomyOf m h)).toList = [.int .i64 4, .int .i64 256, .int .i64 16, .int .i64 65536, .int .i64 4, .int .i64 32, .int .i64 16, .int .i64 256, .int .i64 64, .int .i64 1000, .int .i64 2, .int .i64 2, .bool false, .bool false] ++ zer ++ (.bool true :: zer ++ [.int .u32 m]) := by
  show (Cf.l (roomyOf m h)).toArray.toList = _
  rw [List.toList_toArray, Cf.l]
  show (roomyOf m h).head ++ ((adr0 false).l ++ ((adr0 true).l ++ [.int .u32 m])) = _
  rw [adr0_l, adr0_l]
  simp [Cf.head, roomyOf]
theorem cc_one (c : Cf) : (cc c).all (·.oneCell') = true := by
  rw [Array.all_eq_true']
  intro v hv
  simp only [cc, List.mem_toArray, Cf.l, List.mem_append, Adr.l, List.mem_cons, u8s, List.mem_map, Cf.head, List.not_mem_nil, or_false] at hv
  rcases hv with h | h | h | h
  · rcases h with rfl | rfl | rfl | rfl | rfl | rfl | rfl | rfl | rfl | rfl | rfl | rfl | rfl <;> rfl
  · rcases h with rfl | ⟨a, _, rfl⟩ <;> rfl
  · rcases h with rfl | ⟨a, _, rfl⟩ <;> rfl
  · subst h; rfl
theorem store29 (w : World) (n : Nat) (Z C : Array Value) (hn : n = w.heap.size) (hZ : Z.size = 48) (hC : C.size = 48) (h1 : C.all (·.oneCell') = true) : (storeCells ⟨n, 0, none⟩ C.toList 0).run Try.prog (w.alloc (.cells Z 33)) = .ok () (w.alloc (.cells C 33)) := by
  subst hn
  exact run_storeCells_new (P := Try.prog) w 33 _ C (by rw [hC]; exact sizeC) (by rw [hC, hZ]) h1
def roomyC (m : Nat) : Array Value := if h : m < 4294967296 then cc (roomyOf m h) else #[]
theorem roomyC_eq (m : Nat) (h : m < 4294967296) : roomyC m = cc (roomyOf m h) := by unfold roomyC; rw [dif_pos h]
theorem build29 (m : Nat) (h : m < 4294967296) (w : World) : bldX Try.prog 33 #[(0, Value.int .i64 4), (1, Value.int .i64 256), (2, Value.int .i64 16), (3, Value.int .i64 65536), (4, Value.int .i64 4), (5, Value.int .i64 32), (6, Value.int .i64 16), (7, Value.int .i64 256), (8, Value.int .i64 64), (9, Value.int .i64 1000), (10, Value.int .i64 2), (11, Value.int .i64 2), (14, .agg #[.bool true, .int .u8 0, .int .u8 0, .int .u8 0, .int .u8 0, .int .u8 0, .int .u8 0, .int .u8 0, .int .u8 0, .int .u8 0, .int .u8 0, .int .u8 0, .int .u8 0, .int .u8 0, .int .u8 0, .int .u8 0, .int .u8 0]), (15, .int .u32 m)] w = .ok (.value (.agg (roomyC m))) w :=
  bldX_of w (by rw [roomyC_eq m h]; kernel_rfl)
theorem exec_bldC (parts : Array (Nat × Operand)) (dst : Option Tmp) (ty : TypeId) (pos : String) (after : Array Edge) (g : Option (Nat × Bool)) (f : Operand → Value) (w : World) :
    (execOp f ⟨dst, .build 33 parts, ty, pos, after, g⟩).run Try.prog w = bldX Try.prog 33 (parts.map fun (i, x) => (i, f x)) w := rfl
attribute [local go_sem ↓] exec_bldC
set_option maxRecDepth 100000 in
set_option maxHeartbeats 4000000 in
theorem roomy_any (s : Int) (w : World) : Calls Try.prog 17 #[.int .i64 s] w fun e w' => e = .returned (.agg (cc (roomy s))) ∧ w' = w.alloc (.cells (cc (roomy s)) 33) := by
  obtain ⟨m, hm⟩ : ∃ m : Nat, s % 1073741824 = m := ⟨(s % 1073741824).toNat, by omega⟩
  have hml : m < 1073741824 := by omega
  have hml2 : m < 4294967296 := by omega
  have HE : Hid (cc (roomy s) = roomyC m) := Lib.hid (by rw [roomyC_eq m hml2]; unfold roomy; congr 2; omega)
  have HM := Lib.hid hm
  have hb := build29 m hml2
  have hw : IntKind.u32.wrap (m : Int) = (m : Int) := by rw [IntKind.wrap_u32]; omega
  have hz : (roomyC m).size = 48 := by rw [roomyC_eq m hml2]; exact cc_size _
  have hs := fun (w : World) (n : Nat) (Z : Array Value) (hn : n = w.heap.size) (hZ : Z.size = 48) => store29 w n Z (roomyC m) hn hZ hz (by rw [roomyC_eq m hml2]; exact cc_one _)
  rw [HE.out]
  clear hm hml HE
  go_enter Try.func17, Try.ntmps17
  go_wp2_with fail
  refine (round_big s 1073741824 (by omega) (by omega) _).mono ?_
  rintro e w1 ⟨rfl, rfl⟩
  rw [HM.out]
  go_wp2_with fail
  exact bodyPost_ret (results_cell_row rfl _ _ w.heap.size 33 (roomyC m) (0, 0) _ rfl (heap_alloc_new w _) Try.underlying33 rfl (by rw [hz]; exact sizeC)) rfl ⟨rfl, rfl⟩
end Go.Proofs.Ytgjecemmejaieaa
