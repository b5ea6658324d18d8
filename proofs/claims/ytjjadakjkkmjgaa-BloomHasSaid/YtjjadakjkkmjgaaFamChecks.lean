/-
  FamilyChecks: its walk.
-/
import Derived.Test.YtjjadakjkkmjgaaFamRows
namespace Go.Proofs.Ytjjadakjkkmjgaa
open Go.RowKit
theorem cc_set0 (c : Cf) (v : Int) : (cc c).setIfInBounds 0 (.int .i64 v) = cc { c with stages := v } := by simp [cc, Cf.l, Cf.head]
theorem cok_set0 (c : Cf) (v : Int) (h : cok c = true) : cok { c with stages := v } = wi v 1 4 := by
  simp only [cok, sizesOk, poolsOk, timesOk, ownsOk, Bool.and_eq_true] at h ⊢
  simp [h]
theorem cc_set1 (c : Cf) (v : Int) : (cc c).setIfInBounds 1 (.int .i64 v) = cc { c with size := v } := by simp [cc, Cf.l, Cf.head]
theorem cok_set1 (c : Cf) (v : Int) (h : cok c = true) : cok { c with size := v } = pw v 2 1024 := by
  simp only [cok, sizesOk, poolsOk, timesOk, ownsOk, Bool.and_eq_true] at h ⊢
  simp [h]
theorem cc_set2 (c : Cf) (v : Int) : (cc c).setIfInBounds 2 (.int .i64 v) = cc { c with digest := v } := by simp [cc, Cf.l, Cf.head]
theorem cok_set2 (c : Cf) (v : Int) (h : cok c = true) : cok { c with digest := v } = wi v 1 16 := by
  simp only [cok, sizesOk, poolsOk, timesOk, ownsOk, Bool.and_eq_true] at h ⊢
  simp [h]
theorem cc_set3 (c : Cf) (v : Int) : (cc c).setIfInBounds 3 (.int .i64 v) = cc { c with bloom := v } := by simp [cc, Cf.l, Cf.head]
theorem cok_set3 (c : Cf) (v : Int) (h : cok c = true) : cok { c with bloom := v } = pw v 8 65536 := by
  simp only [cok, sizesOk, poolsOk, timesOk, ownsOk, Bool.and_eq_true] at h ⊢
  simp [h]
theorem cc_set4 (c : Cf) (v : Int) : (cc c).setIfInBounds 4 (.int .i64 v) = cc { c with hashes := v } := by simp [cc, Cf.l, Cf.head]
theorem cok_set4 (c : Cf) (v : Int) (h : cok c = true) : cok { c with hashes := v } = wi v 1 4 := by
  simp only [cok, sizesOk, poolsOk, timesOk, ownsOk, Bool.and_eq_true] at h ⊢
  simp [h]
theorem cc_set5 (c : Cf) (v : Int) : (cc c).setIfInBounds 5 (.int .i64 v) = cc { c with slots := v } := by simp [cc, Cf.l, Cf.head]
theorem cok_set5 (c : Cf) (v : Int) (h : cok c = true) : cok { c with slots := v } = wi v 1 64 := by
  simp only [cok, sizesOk, poolsOk, timesOk, ownsOk, Bool.and_eq_true] at h ⊢
  simp [h]
theorem cc_set6 (c : Cf) (v : Int) : (cc c).setIfInBounds 6 (.int .i64 v) = cc { c with versions := v } := by simp [cc, Cf.l, Cf.head]
theorem cok_set6 (c : Cf) (v : Int) (h : cok c = true) : cok { c with versions := v } = wi v 2 16 := by
  simp only [cok, sizesOk, poolsOk, timesOk, ownsOk, Bool.and_eq_true] at h ⊢
  simp [h]
theorem cc_set7 (c : Cf) (v : Int) : (cc c).setIfInBounds 7 (.int .i64 v) = cc { c with queue := v } := by simp [cc, Cf.l, Cf.head]
theorem cok_set7 (c : Cf) (v : Int) (h : cok c = true) : cok { c with queue := v } = wi v 1 256 := by
  simp only [cok, sizesOk, poolsOk, timesOk, ownsOk, Bool.and_eq_true] at h ⊢
  simp [h]
theorem cc_set8 (c : Cf) (v : Int) : (cc c).setIfInBounds 8 (.int .i64 v) = cc { c with evict := v } := by simp [cc, Cf.l, Cf.head]
theorem cok_set8 (c : Cf) (v : Int) (h : cok c = true) : cok { c with evict := v } = wi v 1 64 := by
  simp only [cok, sizesOk, poolsOk, timesOk, ownsOk, Bool.and_eq_true] at h ⊢
  simp [h]
theorem cc_set9 (c : Cf) (v : Int) : (cc c).setIfInBounds 9 (.int .i64 v) = cc { c with idle := v } := by simp [cc, Cf.l, Cf.head]
theorem cok_set9 (c : Cf) (v : Int) (h : cok c = true) : cok { c with idle := v } = wi v 1 1000 := by
  simp only [cok, sizesOk, poolsOk, timesOk, ownsOk, Bool.and_eq_true] at h ⊢
  simp [h]
theorem cc_set10 (c : Cf) (v : Int) : (cc c).setIfInBounds 10 (.int .i64 v) = cc { c with linger := v } := by simp [cc, Cf.l, Cf.head]
theorem cok_set10 (c : Cf) (v : Int) (h : cok c = true) : cok { c with linger := v } = wi v 1 1000 := by
  simp only [cok, sizesOk, poolsOk, timesOk, ownsOk, Bool.and_eq_true] at h ⊢
  simp [h]
theorem cc_set11 (c : Cf) (v : Int) : (cc c).setIfInBounds 11 (.int .i64 v) = cc { c with fails := v } := by simp [cc, Cf.l, Cf.head]
theorem cok_set11 (c : Cf) (v : Int) (h : cok c = true) : cok { c with fails := v } = wi v 1 10 := by
  simp only [cok, sizesOk, poolsOk, timesOk, ownsOk, Bool.and_eq_true] at h ⊢
  simp [h]
set_option maxRecDepth 100000 in
set_option maxHeartbeats 16000000 in
theorem checks_any (a0 : Option Addr) (n0 c0 : Nat) (z0 : List Int) (a1 a2 : Int) (w : World) (h0 : IsRow .i64 w a0 n0 c0 z0) (_ : (Lit.int .i64 a1).wf = true) (_ : (Lit.int .i64 a2).wf = true) :
    Calls Try.prog 3 #[.slice a0 n0 c0, .int .i64 a1, .int .i64 a2] w fun e w' => e = .returned (.bool true) ∧ Below w.heap.size w w' := by
  obtain ⟨hI, hm, _⟩ := h0.ints
  have HI := Lib.hid hI
  clear h0 hI
  unfold maxLen at hm
  by_cases hn : 30 < n0
  · go_enter Try.func3, Try.ntmps3
    go_wp2_with fail
    refine (awake_any _).mono ?_
    rintro e w1 ⟨rfl, hb⟩
    go_wp2_with fail
    go_ret
    exact ⟨rfl, hb⟩
  · obtain ⟨c, hc⟩ : ∃ c, c = config (z0.take n0) := ⟨_, rfl⟩
    have KC := Lib.hid (fun (w : World) (h : Ints w a0 n0 (z0.take n0)) => config_any a0 n0 c0 (z0.take n0) w h (by omega))
    rw [← hc] at KC
    have OK := Lib.hid (show cok c = true by rw [hc]; exact cok_config _)
    have hst := fun (w : World) (n : Nat) (Z : Array Value) (hn : n = w.heap.size) (hZ : Z.size = 48) => store_new (P := Try.prog) sizeC w n Z (cc c) hn hZ (cc_size _) (cc_one _)
    clear hc
    obtain ⟨v, rfl⟩ : ∃ v, a2 = v := ⟨_, rfl⟩
    have hr : a1 % 12 = 0 ∨ a1 % 12 = 1 ∨ a1 % 12 = 2 ∨ a1 % 12 = 3 ∨ a1 % 12 = 4 ∨ a1 % 12 = 5 ∨ a1 % 12 = 6 ∨ a1 % 12 = 7 ∨ a1 % 12 = 8 ∨ a1 % 12 = 9 ∨ a1 % 12 = 10 ∨ a1 % 12 = 11 := by omega
    rcases hr with hr | hr | hr | hr | hr | hr | hr | hr | hr | hr | hr | hr
    all_goals
      have HR := Lib.hid hr
      clear hr
    · go_enter Try.func3, Try.ntmps3
      have HB := Lib.hid (Below.refl w.heap.size w)
      go_wp2_with fail
      refine (KC.out _ HI.out).mono ?_
      rintro e w1 ⟨rfl, hb⟩
      have hbs : Below w.heap.size w w1 := step_below (by first | exact Below.refl _ _ | exact (Below.refl _ _).drew | exact (Below.refl _ _).alloc (Nat.le_refl _) _ | exact ((Below.refl _ _).alloc (Nat.le_refl _) _).drew | exact ((Below.refl _ _).drew).alloc (Nat.le_refl _) _ | exact ((Below.refl _ _).alloc (Nat.le_refl _) _).alloc (by simp) _ | exact (((Below.refl _ _).alloc (Nat.le_refl _) _).alloc (by simp) _).drew | exact (((Below.refl _ _).alloc (Nat.le_refl _) _).alloc (by simp) _).alloc (by simp; omega) _) hb
      replace HB := Lib.hid (step_below HB.out hbs)
      clear hbs
      clear hb
      go_wp2_with fail
      have HBp := HB
      have C := at_new w1 29 (cc c) _ rfl
      replace HB := Lib.hid (HB.out.alloc HB.out.size (.cells (cc c) 29))
      obtain ⟨gc, hg⟩ : ∃ g, g = w1.heap.size := ⟨_, rfl⟩
      have b_gc : w.heap.size ≤ gc := by rw [hg]; exact HBp.out.size
      rw [← hg] at C
      try rw [← hg]
      clear hg HBp
      replace C := Lib.hid C
      generalize w1.alloc (.cells (cc c) 29) = w2 at *
      have r_C := C.out.row
      have o_C := C.out.open
      have l_C := C.out.lt
      have c_C := C.out.cell
      have z_C := C.out.frozen
      go_wp2_with fail
      clear r_C o_C l_C c_C z_C
      refine (check_any c _).mono ?_
      rintro e w3 ⟨rfl, hb⟩
      have hbs : Below w2.heap.size w2 w3 := step_below (by first | exact Below.refl _ _ | exact (Below.refl _ _).drew | exact (Below.refl _ _).alloc (Nat.le_refl _) _ | exact ((Below.refl _ _).alloc (Nat.le_refl _) _).drew | exact ((Below.refl _ _).drew).alloc (Nat.le_refl _) _ | exact ((Below.refl _ _).alloc (Nat.le_refl _) _).alloc (by simp) _ | exact (((Below.refl _ _).alloc (Nat.le_refl _) _).alloc (by simp) _).drew | exact (((Below.refl _ _).alloc (Nat.le_refl _) _).alloc (by simp) _).alloc (by simp; omega) _) hb
      replace HB := Lib.hid (step_below HB.out hbs)
      replace C := Lib.hid (C.out.below hbs C.out.lt)
      clear hbs
      clear hb
      rw [chk_yes c OK.out]
      go_wp2_with fail
      refine (round_big a1 12 (by omega) (by omega) _).mono ?_
      rintro e w_ ⟨rfl, rfl⟩
      rw [HR.out]
      have hC := (C.out.set 0 (.int .i64 a2))
      rw [cc_set0] at hC
      have HB2 := Lib.hid (HB.out.setCell (p := ⟨gc, 0, none⟩) b_gc (.int .i64 a2))
      have r_D := hC.row
      have o_D := hC.open
      clear hC
      rcases (show a2 < 1 ∨ (1 ≤ a2 ∧ 4 < a2) ∨ (1 ≤ a2 ∧ a2 ≤ 4) by omega) with q1 | ⟨q1, q2⟩ | ⟨q1, q2⟩
      · have qd : decide (1 ≤ a2) = false := by simpa using q1
        have E := Lib.hid (show cok { c with stages := a2 } = false by rw [cok_set0 c a2 OK.out]; simp [wi]; omega)
        have r_C := C.out.row
        have o_C := C.out.open
        have l_C := C.out.lt
        have c_C := C.out.cell
        have z_C := C.out.frozen
        go_wp2_with fail
        clear r_C o_C l_C c_C z_C
        refine (check_any { c with stages := a2 } _).mono ?_
        rintro e w3 ⟨rfl, hb⟩
        rw [chk_no _ E.out]
        go_wp2_with fail
        refine (awake_any _).mono ?_
        rintro e w4 ⟨rfl, hb2⟩
        go_wp2_with fail
        go_ret
        exact ⟨rfl, step_below (step_below HB2.out hb) hb2⟩
      · have qd : decide (a2 ≤ 4) = false := by simpa using q2
        have E := Lib.hid (show cok { c with stages := a2 } = false by rw [cok_set0 c a2 OK.out]; simp only [wi]; rw [qd]; simp)
        have r_C := C.out.row
        have o_C := C.out.open
        have l_C := C.out.lt
        have c_C := C.out.cell
        have z_C := C.out.frozen
        go_wp2_with fail
        clear r_C o_C l_C c_C z_C
        refine (check_any { c with stages := a2 } _).mono ?_
        rintro e w3 ⟨rfl, hb⟩
        rw [chk_no _ E.out]
        go_wp2_with fail
        refine (awake_any _).mono ?_
        rintro e w4 ⟨rfl, hb2⟩
        go_wp2_with fail
        go_ret
        exact ⟨rfl, step_below (step_below HB2.out hb) hb2⟩
      · have qd : decide (a2 ≤ 4) = true := by simpa using q2
        have E := Lib.hid (show cok { c with stages := a2 } = true by rw [cok_set0 c a2 OK.out]; exact wi_of q1 q2)
        have r_C := C.out.row
        have o_C := C.out.open
        have l_C := C.out.lt
        have c_C := C.out.cell
        have z_C := C.out.frozen
        go_wp2_with fail
        clear r_C o_C l_C c_C z_C
        refine (check_any { c with stages := a2 } _).mono ?_
        rintro e w3 ⟨rfl, hb⟩
        rw [chk_yes _ E.out]
        go_wp2_with fail
        refine (awake_any _).mono ?_
        rintro e w4 ⟨rfl, hb2⟩
        go_wp2_with fail
        go_ret
        exact ⟨rfl, step_below (step_below HB2.out hb) hb2⟩
    · go_enter Try.func3, Try.ntmps3
      have HB := Lib.hid (Below.refl w.heap.size w)
      go_wp2_with fail
      refine (KC.out _ HI.out).mono ?_
      rintro e w1 ⟨rfl, hb⟩
      have hbs : Below w.heap.size w w1 := step_below (by first | exact Below.refl _ _ | exact (Below.refl _ _).drew | exact (Below.refl _ _).alloc (Nat.le_refl _) _ | exact ((Below.refl _ _).alloc (Nat.le_refl _) _).drew | exact ((Below.refl _ _).drew).alloc (Nat.le_refl _) _ | exact ((Below.refl _ _).alloc (Nat.le_refl _) _).alloc (by simp) _ | exact (((Below.refl _ _).alloc (Nat.le_refl _) _).alloc (by simp) _).drew | exact (((Below.refl _ _).alloc (Nat.le_refl _) _).alloc (by simp) _).alloc (by simp; omega) _) hb
      replace HB := Lib.hid (step_below HB.out hbs)
      clear hbs
      clear hb
      go_wp2_with fail
      have HBp := HB
      have C := at_new w1 29 (cc c) _ rfl
      replace HB := Lib.hid (HB.out.alloc HB.out.size (.cells (cc c) 29))
      obtain ⟨gc, hg⟩ : ∃ g, g = w1.heap.size := ⟨_, rfl⟩
      have b_gc : w.heap.size ≤ gc := by rw [hg]; exact HBp.out.size
      rw [← hg] at C
      try rw [← hg]
      clear hg HBp
      replace C := Lib.hid C
      generalize w1.alloc (.cells (cc c) 29) = w2 at *
      have r_C := C.out.row
      have o_C := C.out.open
      have l_C := C.out.lt
      have c_C := C.out.cell
      have z_C := C.out.frozen
      go_wp2_with fail
      clear r_C o_C l_C c_C z_C
      refine (check_any c _).mono ?_
      rintro e w3 ⟨rfl, hb⟩
      have hbs : Below w2.heap.size w2 w3 := step_below (by first | exact Below.refl _ _ | exact (Below.refl _ _).drew | exact (Below.refl _ _).alloc (Nat.le_refl _) _ | exact ((Below.refl _ _).alloc (Nat.le_refl _) _).drew | exact ((Below.refl _ _).drew).alloc (Nat.le_refl _) _ | exact ((Below.refl _ _).alloc (Nat.le_refl _) _).alloc (by simp) _ | exact (((Below.refl _ _).alloc (Nat.le_refl _) _).alloc (by simp) _).drew | exact (((Below.refl _ _).alloc (Nat.le_refl _) _).alloc (by simp) _).alloc (by simp; omega) _) hb
      replace HB := Lib.hid (step_below HB.out hbs)
      replace C := Lib.hid (C.out.below hbs C.out.lt)
      clear hbs
      clear hb
      rw [chk_yes c OK.out]
      go_wp2_with fail
      refine (round_big a1 12 (by omega) (by omega) _).mono ?_
      rintro e w_ ⟨rfl, rfl⟩
      rw [HR.out]
      have hC := (C.out.set 1 (.int .i64 a2))
      rw [cc_set1] at hC
      have HB2 := Lib.hid (HB.out.setCell (p := ⟨gc, 1, none⟩) b_gc (.int .i64 a2))
      have r_D := hC.row
      have o_D := hC.open
      clear hC
      rcases (show a2 < 2 ∨ (2 ≤ a2 ∧ 1024 < a2) ∨ (2 ≤ a2 ∧ a2 ≤ 1024) by omega) with q1 | ⟨q1, q2⟩ | ⟨q1, q2⟩
      · have qd : decide (2 ≤ a2) = false := by simpa using q1
        have E := Lib.hid (show cok { c with size := a2 } = false by rw [cok_set1 c a2 OK.out]; simp only [pw, wi]; rw [qd]; rfl)
        have r_C := C.out.row
        have o_C := C.out.open
        have l_C := C.out.lt
        have c_C := C.out.cell
        have z_C := C.out.frozen
        go_wp2_with fail
        clear r_C o_C l_C c_C z_C
        refine (check_any { c with size := a2 } _).mono ?_
        rintro e w3 ⟨rfl, hb⟩
        rw [chk_no _ E.out]
        go_wp2_with fail
        refine (awake_any _).mono ?_
        rintro e w4 ⟨rfl, hb2⟩
        go_wp2_with fail
        go_ret
        exact ⟨rfl, step_below (step_below HB2.out hb) hb2⟩
      · have qd : decide (a2 ≤ 1024) = false := by simpa using q2
        have E := Lib.hid (show cok { c with size := a2 } = false by rw [cok_set1 c a2 OK.out]; simp only [pw, wi]; rw [qd]; simp)
        have r_C := C.out.row
        have o_C := C.out.open
        have l_C := C.out.lt
        have c_C := C.out.cell
        have z_C := C.out.frozen
        go_wp2_with fail
        clear r_C o_C l_C c_C z_C
        refine (check_any { c with size := a2 } _).mono ?_
        rintro e w3 ⟨rfl, hb⟩
        rw [chk_no _ E.out]
        go_wp2_with fail
        refine (awake_any _).mono ?_
        rintro e w4 ⟨rfl, hb2⟩
        go_wp2_with fail
        go_ret
        exact ⟨rfl, step_below (step_below HB2.out hb) hb2⟩
      · cases qb : (bits .and .i64 a2 (a2 - 1) == 0)
        · have qw : wrap64 (a2 - 1) = a2 - 1 := IntWalk.wrap64_in _ ⟨by omega, by omega⟩
          have E := Lib.hid (show cok { c with size := a2 } = false by rw [cok_set1 c a2 OK.out]; simp only [pw]; rw [wi_of q1 q2, qw, qb]; rfl)
          clear qw
          have r_C := C.out.row
          have o_C := C.out.open
          have l_C := C.out.lt
          have c_C := C.out.cell
          have z_C := C.out.frozen
          go_wp2_with fail
          clear r_C o_C l_C c_C z_C
          refine (check_any { c with size := a2 } _).mono ?_
          rintro e w3 ⟨rfl, hb⟩
          rw [chk_no _ E.out]
          go_wp2_with fail
          refine (awake_any _).mono ?_
          rintro e w4 ⟨rfl, hb2⟩
          go_wp2_with fail
          go_ret
          exact ⟨rfl, step_below (step_below HB2.out hb) hb2⟩
        · have qw : wrap64 (a2 - 1) = a2 - 1 := IntWalk.wrap64_in _ ⟨by omega, by omega⟩
          have E := Lib.hid (show cok { c with size := a2 } = true by rw [cok_set1 c a2 OK.out]; simp only [pw]; rw [wi_of q1 q2, qw, qb]; rfl)
          clear qw
          have r_C := C.out.row
          have o_C := C.out.open
          have l_C := C.out.lt
          have c_C := C.out.cell
          have z_C := C.out.frozen
          go_wp2_with fail
          clear r_C o_C l_C c_C z_C
          refine (check_any { c with size := a2 } _).mono ?_
          rintro e w3 ⟨rfl, hb⟩
          rw [chk_yes _ E.out]
          go_wp2_with fail
          refine (awake_any _).mono ?_
          rintro e w4 ⟨rfl, hb2⟩
          go_wp2_with fail
          go_ret
          exact ⟨rfl, step_below (step_below HB2.out hb) hb2⟩
    · go_enter Try.func3, Try.ntmps3
      have HB := Lib.hid (Below.refl w.heap.size w)
      go_wp2_with fail
      refine (KC.out _ HI.out).mono ?_
      rintro e w1 ⟨rfl, hb⟩
      have hbs : Below w.heap.size w w1 := step_below (by first | exact Below.refl _ _ | exact (Below.refl _ _).drew | exact (Below.refl _ _).alloc (Nat.le_refl _) _ | exact ((Below.refl _ _).alloc (Nat.le_refl _) _).drew | exact ((Below.refl _ _).drew).alloc (Nat.le_refl _) _ | exact ((Below.refl _ _).alloc (Nat.le_refl _) _).alloc (by simp) _ | exact (((Below.refl _ _).alloc (Nat.le_refl _) _).alloc (by simp) _).drew | exact (((Below.refl _ _).alloc (Nat.le_refl _) _).alloc (by simp) _).alloc (by simp; omega) _) hb
      replace HB := Lib.hid (step_below HB.out hbs)
      clear hbs
      clear hb
      go_wp2_with fail
      have HBp := HB
      have C := at_new w1 29 (cc c) _ rfl
      replace HB := Lib.hid (HB.out.alloc HB.out.size (.cells (cc c) 29))
      obtain ⟨gc, hg⟩ : ∃ g, g = w1.heap.size := ⟨_, rfl⟩
      have b_gc : w.heap.size ≤ gc := by rw [hg]; exact HBp.out.size
      rw [← hg] at C
      try rw [← hg]
      clear hg HBp
      replace C := Lib.hid C
      generalize w1.alloc (.cells (cc c) 29) = w2 at *
      have r_C := C.out.row
      have o_C := C.out.open
      have l_C := C.out.lt
      have c_C := C.out.cell
      have z_C := C.out.frozen
      go_wp2_with fail
      clear r_C o_C l_C c_C z_C
      refine (check_any c _).mono ?_
      rintro e w3 ⟨rfl, hb⟩
      have hbs : Below w2.heap.size w2 w3 := step_below (by first | exact Below.refl _ _ | exact (Below.refl _ _).drew | exact (Below.refl _ _).alloc (Nat.le_refl _) _ | exact ((Below.refl _ _).alloc (Nat.le_refl _) _).drew | exact ((Below.refl _ _).drew).alloc (Nat.le_refl _) _ | exact ((Below.refl _ _).alloc (Nat.le_refl _) _).alloc (by simp) _ | exact (((Below.refl _ _).alloc (Nat.le_refl _) _).alloc (by simp) _).drew | exact (((Below.refl _ _).alloc (Nat.le_refl _) _).alloc (by simp) _).alloc (by simp; omega) _) hb
      replace HB := Lib.hid (step_below HB.out hbs)
      replace C := Lib.hid (C.out.below hbs C.out.lt)
      clear hbs
      clear hb
      rw [chk_yes c OK.out]
      go_wp2_with fail
      refine (round_big a1 12 (by omega) (by omega) _).mono ?_
      rintro e w_ ⟨rfl, rfl⟩
      rw [HR.out]
      have hC := (C.out.set 2 (.int .i64 a2))
      rw [cc_set2] at hC
      have HB2 := Lib.hid (HB.out.setCell (p := ⟨gc, 2, none⟩) b_gc (.int .i64 a2))
      have r_D := hC.row
      have o_D := hC.open
      clear hC
      rcases (show a2 < 1 ∨ (1 ≤ a2 ∧ 16 < a2) ∨ (1 ≤ a2 ∧ a2 ≤ 16) by omega) with q1 | ⟨q1, q2⟩ | ⟨q1, q2⟩
      · have qd : decide (1 ≤ a2) = false := by simpa using q1
        have E := Lib.hid (show cok { c with digest := a2 } = false by rw [cok_set2 c a2 OK.out]; simp [wi]; omega)
        have r_C := C.out.row
        have o_C := C.out.open
        have l_C := C.out.lt
        have c_C := C.out.cell
        have z_C := C.out.frozen
        go_wp2_with fail
        clear r_C o_C l_C c_C z_C
        refine (check_any { c with digest := a2 } _).mono ?_
        rintro e w3 ⟨rfl, hb⟩
        rw [chk_no _ E.out]
        go_wp2_with fail
        refine (awake_any _).mono ?_
        rintro e w4 ⟨rfl, hb2⟩
        go_wp2_with fail
        go_ret
        exact ⟨rfl, step_below (step_below HB2.out hb) hb2⟩
      · have qd : decide (a2 ≤ 16) = false := by simpa using q2
        have E := Lib.hid (show cok { c with digest := a2 } = false by rw [cok_set2 c a2 OK.out]; simp only [wi]; rw [qd]; simp)
        have r_C := C.out.row
        have o_C := C.out.open
        have l_C := C.out.lt
        have c_C := C.out.cell
        have z_C := C.out.frozen
        go_wp2_with fail
        clear r_C o_C l_C c_C z_C
        refine (check_any { c with digest := a2 } _).mono ?_
        rintro e w3 ⟨rfl, hb⟩
        rw [chk_no _ E.out]
        go_wp2_with fail
        refine (awake_any _).mono ?_
        rintro e w4 ⟨rfl, hb2⟩
        go_wp2_with fail
        go_ret
        exact ⟨rfl, step_below (step_below HB2.out hb) hb2⟩
      · have qd : decide (a2 ≤ 16) = true := by simpa using q2
        have E := Lib.hid (show cok { c with digest := a2 } = true by rw [cok_set2 c a2 OK.out]; exact wi_of q1 q2)
        have r_C := C.out.row
        have o_C := C.out.open
        have l_C := C.out.lt
        have c_C := C.out.cell
        have z_C := C.out.frozen
        go_wp2_with fail
        clear r_C o_C l_C c_C z_C
        refine (check_any { c with digest := a2 } _).mono ?_
        rintro e w3 ⟨rfl, hb⟩
        rw [chk_yes _ E.out]
        go_wp2_with fail
        refine (awake_any _).mono ?_
        rintro e w4 ⟨rfl, hb2⟩
        go_wp2_with fail
        go_ret
        exact ⟨rfl, step_below (step_below HB2.out hb) hb2⟩
    · go_enter Try.func3, Try.ntmps3
      have HB := Lib.hid (Below.refl w.heap.size w)
      go_wp2_with fail
      refine (KC.out _ HI.out).mono ?_
      rintro e w1 ⟨rfl, hb⟩
      have hbs : Below w.heap.size w w1 := step_below (by first | exact Below.refl _ _ | exact (Below.refl _ _).drew | exact (Below.refl _ _).alloc (Nat.le_refl _) _ | exact ((Below.refl _ _).alloc (Nat.le_refl _) _).drew | exact ((Below.refl _ _).drew).alloc (Nat.le_refl _) _ | exact ((Below.refl _ _).alloc (Nat.le_refl _) _).alloc (by simp) _ | exact (((Below.refl _ _).alloc (Nat.le_refl _) _).alloc (by simp) _).drew | exact (((Below.refl _ _).alloc (Nat.le_refl _) _).alloc (by simp) _).alloc (by simp; omega) _) hb
      replace HB := Lib.hid (step_below HB.out hbs)
      clear hbs
      clear hb
      go_wp2_with fail
      have HBp := HB
      have C := at_new w1 29 (cc c) _ rfl
      replace HB := Lib.hid (HB.out.alloc HB.out.size (.cells (cc c) 29))
      obtain ⟨gc, hg⟩ : ∃ g, g = w1.heap.size := ⟨_, rfl⟩
      have b_gc : w.heap.size ≤ gc := by rw [hg]; exact HBp.out.size
      rw [← hg] at C
      try rw [← hg]
      clear hg HBp
      replace C := Lib.hid C
      generalize w1.alloc (.cells (cc c) 29) = w2 at *
      have r_C := C.out.row
      have o_C := C.out.open
      have l_C := C.out.lt
      have c_C := C.out.cell
      have z_C := C.out.frozen
      go_wp2_with fail
      clear r_C o_C l_C c_C z_C
      refine (check_any c _).mono ?_
      rintro e w3 ⟨rfl, hb⟩
      have hbs : Below w2.heap.size w2 w3 := step_below (by first | exact Below.refl _ _ | exact (Below.refl _ _).drew | exact (Below.refl _ _).alloc (Nat.le_refl _) _ | exact ((Below.refl _ _).alloc (Nat.le_refl _) _).drew | exact ((Below.refl _ _).drew).alloc (Nat.le_refl _) _ | exact ((Below.refl _ _).alloc (Nat.le_refl _) _).alloc (by simp) _ | exact (((Below.refl _ _).alloc (Nat.le_refl _) _).alloc (by simp) _).drew | exact (((Below.refl _ _).alloc (Nat.le_refl _) _).alloc (by simp) _).alloc (by simp; omega) _) hb
      replace HB := Lib.hid (step_below HB.out hbs)
      replace C := Lib.hid (C.out.below hbs C.out.lt)
      clear hbs
      clear hb
      rw [chk_yes c OK.out]
      go_wp2_with fail
      refine (round_big a1 12 (by omega) (by omega) _).mono ?_
      rintro e w_ ⟨rfl, rfl⟩
      rw [HR.out]
      have hC := (C.out.set 3 (.int .i64 a2))
      rw [cc_set3] at hC
      have HB2 := Lib.hid (HB.out.setCell (p := ⟨gc, 3, none⟩) b_gc (.int .i64 a2))
      have r_D := hC.row
      have o_D := hC.open
      clear hC
      rcases (show a2 < 8 ∨ (8 ≤ a2 ∧ 65536 < a2) ∨ (8 ≤ a2 ∧ a2 ≤ 65536) by omega) with q1 | ⟨q1, q2⟩ | ⟨q1, q2⟩
      · have qd : decide (8 ≤ a2) = false := by simpa using q1
        have E := Lib.hid (show cok { c with bloom := a2 } = false by rw [cok_set3 c a2 OK.out]; simp only [pw, wi]; rw [qd]; rfl)
        have r_C := C.out.row
        have o_C := C.out.open
        have l_C := C.out.lt
        have c_C := C.out.cell
        have z_C := C.out.frozen
        go_wp2_with fail
        clear r_C o_C l_C c_C z_C
        refine (check_any { c with bloom := a2 } _).mono ?_
        rintro e w3 ⟨rfl, hb⟩
        rw [chk_no _ E.out]
        go_wp2_with fail
        refine (awake_any _).mono ?_
        rintro e w4 ⟨rfl, hb2⟩
        go_wp2_with fail
        go_ret
        exact ⟨rfl, step_below (step_below HB2.out hb) hb2⟩
      · have qd : decide (a2 ≤ 65536) = false := by simpa using q2
        have E := Lib.hid (show cok { c with bloom := a2 } = false by rw [cok_set3 c a2 OK.out]; simp only [pw, wi]; rw [qd]; simp)
        have r_C := C.out.row
        have o_C := C.out.open
        have l_C := C.out.lt
        have c_C := C.out.cell
        have z_C := C.out.frozen
        go_wp2_with fail
        clear r_C o_C l_C c_C z_C
        refine (check_any { c with bloom := a2 } _).mono ?_
        rintro e w3 ⟨rfl, hb⟩
        rw [chk_no _ E.out]
        go_wp2_with fail
        refine (awake_any _).mono ?_
        rintro e w4 ⟨rfl, hb2⟩
        go_wp2_with fail
        go_ret
        exact ⟨rfl, step_below (step_below HB2.out hb) hb2⟩
      · cases qb : (bits .and .i64 a2 (a2 - 1) == 0)
        · have qw : wrap64 (a2 - 1) = a2 - 1 := IntWalk.wrap64_in _ ⟨by omega, by omega⟩
          have E := Lib.hid (show cok { c with bloom := a2 } = false by rw [cok_set3 c a2 OK.out]; simp only [pw]; rw [wi_of q1 q2, qw, qb]; rfl)
          clear qw
          have r_C := C.out.row
          have o_C := C.out.open
          have l_C := C.out.lt
          have c_C := C.out.cell
          have z_C := C.out.frozen
          go_wp2_with fail
          clear r_C o_C l_C c_C z_C
          refine (check_any { c with bloom := a2 } _).mono ?_
          rintro e w3 ⟨rfl, hb⟩
          rw [chk_no _ E.out]
          go_wp2_with fail
          refine (awake_any _).mono ?_
          rintro e w4 ⟨rfl, hb2⟩
          go_wp2_with fail
          go_ret
          exact ⟨rfl, step_below (step_below HB2.out hb) hb2⟩
        · have qw : wrap64 (a2 - 1) = a2 - 1 := IntWalk.wrap64_in _ ⟨by omega, by omega⟩
          have E := Lib.hid (show cok { c with bloom := a2 } = true by rw [cok_set3 c a2 OK.out]; simp only [pw]; rw [wi_of q1 q2, qw, qb]; rfl)
          clear qw
          have r_C := C.out.row
          have o_C := C.out.open
          have l_C := C.out.lt
          have c_C := C.out.cell
          have z_C := C.out.frozen
          go_wp2_with fail
          clear r_C o_C l_C c_C z_C
          refine (check_any { c with bloom := a2 } _).mono ?_
          rintro e w3 ⟨rfl, hb⟩
          rw [chk_yes _ E.out]
          go_wp2_with fail
          refine (awake_any _).mono ?_
          rintro e w4 ⟨rfl, hb2⟩
          go_wp2_with fail
          go_ret
          exact ⟨rfl, step_below (step_below HB2.out hb) hb2⟩
    · go_enter Try.func3, Try.ntmps3
      have HB := Lib.hid (Below.refl w.heap.size w)
      go_wp2_with fail
      refine (KC.out _ HI.out).mono ?_
      rintro e w1 ⟨rfl, hb⟩
      have hbs : Below w.heap.size w w1 := step_below (by first | exact Below.refl _ _ | exact (Below.refl _ _).drew | exact (Below.refl _ _).alloc (Nat.le_refl _) _ | exact ((Below.refl _ _).alloc (Nat.le_refl _) _).drew | exact ((Below.refl _ _).drew).alloc (Nat.le_refl _) _ | exact ((Below.refl _ _).alloc (Nat.le_refl _) _).alloc (by simp) _ | exact (((Below.refl _ _).alloc (Nat.le_refl _) _).alloc (by simp) _).drew | exact (((Below.refl _ _).alloc (Nat.le_refl _) _).alloc (by simp) _).alloc (by simp; omega) _) hb
      replace HB := Lib.hid (step_below HB.out hbs)
      clear hbs
      clear hb
      go_wp2_with fail
      have HBp := HB
      have C := at_new w1 29 (cc c) _ rfl
      replace HB := Lib.hid (HB.out.alloc HB.out.size (.cells (cc c) 29))
      obtain ⟨gc, hg⟩ : ∃ g, g = w1.heap.size := ⟨_, rfl⟩
      have b_gc : w.heap.size ≤ gc := by rw [hg]; exact HBp.out.size
      rw [← hg] at C
      try rw [← hg]
      clear hg HBp
      replace C := Lib.hid C
      generalize w1.alloc (.cells (cc c) 29) = w2 at *
      have r_C := C.out.row
      have o_C := C.out.open
      have l_C := C.out.lt
      have c_C := C.out.cell
      have z_C := C.out.frozen
      go_wp2_with fail
      clear r_C o_C l_C c_C z_C
      refine (check_any c _).mono ?_
      rintro e w3 ⟨rfl, hb⟩
      have hbs : Below w2.heap.size w2 w3 := step_below (by first | exact Below.refl _ _ | exact (Below.refl _ _).drew | exact (Below.refl _ _).alloc (Nat.le_refl _) _ | exact ((Below.refl _ _).alloc (Nat.le_refl _) _).drew | exact ((Below.refl _ _).drew).alloc (Nat.le_refl _) _ | exact ((Below.refl _ _).alloc (Nat.le_refl _) _).alloc (by simp) _ | exact (((Below.refl _ _).alloc (Nat.le_refl _) _).alloc (by simp) _).drew | exact (((Below.refl _ _).alloc (Nat.le_refl _) _).alloc (by simp) _).alloc (by simp; omega) _) hb
      replace HB := Lib.hid (step_below HB.out hbs)
      replace C := Lib.hid (C.out.below hbs C.out.lt)
      clear hbs
      clear hb
      rw [chk_yes c OK.out]
      go_wp2_with fail
      refine (round_big a1 12 (by omega) (by omega) _).mono ?_
      rintro e w_ ⟨rfl, rfl⟩
      rw [HR.out]
      have hC := (C.out.set 4 (.int .i64 a2))
      rw [cc_set4] at hC
      have HB2 := Lib.hid (HB.out.setCell (p := ⟨gc, 4, none⟩) b_gc (.int .i64 a2))
      have r_D := hC.row
      have o_D := hC.open
      clear hC
      rcases (show a2 < 1 ∨ (1 ≤ a2 ∧ 4 < a2) ∨ (1 ≤ a2 ∧ a2 ≤ 4) by omega) with q1 | ⟨q1, q2⟩ | ⟨q1, q2⟩
      · have qd : decide (1 ≤ a2) = false := by simpa using q1
        have E := Lib.hid (show cok { c with hashes := a2 } = false by rw [cok_set4 c a2 OK.out]; simp [wi]; omega)
        have r_C := C.out.row
        have o_C := C.out.open
        have l_C := C.out.lt
        have c_C := C.out.cell
        have z_C := C.out.frozen
        go_wp2_with fail
        clear r_C o_C l_C c_C z_C
        refine (check_any { c with hashes := a2 } _).mono ?_
        rintro e w3 ⟨rfl, hb⟩
        rw [chk_no _ E.out]
        go_wp2_with fail
        refine (awake_any _).mono ?_
        rintro e w4 ⟨rfl, hb2⟩
        go_wp2_with fail
        go_ret
        exact ⟨rfl, step_below (step_below HB2.out hb) hb2⟩
      · have qd : decide (a2 ≤ 4) = false := by simpa using q2
        have E := Lib.hid (show cok { c with hashes := a2 } = false by rw [cok_set4 c a2 OK.out]; simp only [wi]; rw [qd]; simp)
        have r_C := C.out.row
        have o_C := C.out.open
        have l_C := C.out.lt
        have c_C := C.out.cell
        have z_C := C.out.frozen
        go_wp2_with fail
        clear r_C o_C l_C c_C z_C
        refine (check_any { c with hashes := a2 } _).mono ?_
        rintro e w3 ⟨rfl, hb⟩
        rw [chk_no _ E.out]
        go_wp2_with fail
        refine (awake_any _).mono ?_
        rintro e w4 ⟨rfl, hb2⟩
        go_wp2_with fail
        go_ret
        exact ⟨rfl, step_below (step_below HB2.out hb) hb2⟩
      · have qd : decide (a2 ≤ 4) = true := by simpa using q2
        have E := Lib.hid (show cok { c with hashes := a2 } = true by rw [cok_set4 c a2 OK.out]; exact wi_of q1 q2)
        have r_C := C.out.row
        have o_C := C.out.open
        have l_C := C.out.lt
        have c_C := C.out.cell
        have z_C := C.out.frozen
        go_wp2_with fail
        clear r_C o_C l_C c_C z_C
        refine (check_any { c with hashes := a2 } _).mono ?_
        rintro e w3 ⟨rfl, hb⟩
        rw [chk_yes _ E.out]
        go_wp2_with fail
        refine (awake_any _).mono ?_
        rintro e w4 ⟨rfl, hb2⟩
        go_wp2_with fail
        go_ret
        exact ⟨rfl, step_below (step_below HB2.out hb) hb2⟩
    · go_enter Try.func3, Try.ntmps3
      have HB := Lib.hid (Below.refl w.heap.size w)
      go_wp2_with fail
      refine (KC.out _ HI.out).mono ?_
      rintro e w1 ⟨rfl, hb⟩
      have hbs : Below w.heap.size w w1 := step_below (by first | exact Below.refl _ _ | exact (Below.refl _ _).drew | exact (Below.refl _ _).alloc (Nat.le_refl _) _ | exact ((Below.refl _ _).alloc (Nat.le_refl _) _).drew | exact ((Below.refl _ _).drew).alloc (Nat.le_refl _) _ | exact ((Below.refl _ _).alloc (Nat.le_refl _) _).alloc (by simp) _ | exact (((Below.refl _ _).alloc (Nat.le_refl _) _).alloc (by simp) _).drew | exact (((Below.refl _ _).alloc (Nat.le_refl _) _).alloc (by simp) _).alloc (by simp; omega) _) hb
      replace HB := Lib.hid (step_below HB.out hbs)
      clear hbs
      clear hb
      go_wp2_with fail
      have HBp := HB
      have C := at_new w1 29 (cc c) _ rfl
      replace HB := Lib.hid (HB.out.alloc HB.out.size (.cells (cc c) 29))
      obtain ⟨gc, hg⟩ : ∃ g, g = w1.heap.size := ⟨_, rfl⟩
      have b_gc : w.heap.size ≤ gc := by rw [hg]; exact HBp.out.size
      rw [← hg] at C
      try rw [← hg]
      clear hg HBp
      replace C := Lib.hid C
      generalize w1.alloc (.cells (cc c) 29) = w2 at *
      have r_C := C.out.row
      have o_C := C.out.open
      have l_C := C.out.lt
      have c_C := C.out.cell
      have z_C := C.out.frozen
      go_wp2_with fail
      clear r_C o_C l_C c_C z_C
      refine (check_any c _).mono ?_
      rintro e w3 ⟨rfl, hb⟩
      have hbs : Below w2.heap.size w2 w3 := step_below (by first | exact Below.refl _ _ | exact (Below.refl _ _).drew | exact (Below.refl _ _).alloc (Nat.le_refl _) _ | exact ((Below.refl _ _).alloc (Nat.le_refl _) _).drew | exact ((Below.refl _ _).drew).alloc (Nat.le_refl _) _ | exact ((Below.refl _ _).alloc (Nat.le_refl _) _).alloc (by simp) _ | exact (((Below.refl _ _).alloc (Nat.le_refl _) _).alloc (by simp) _).drew | exact (((Below.refl _ _).alloc (Nat.le_refl _) _).alloc (by simp) _).alloc (by simp; omega) _) hb
      replace HB := Lib.hid (step_below HB.out hbs)
      replace C := Lib.hid (C.out.below hbs C.out.lt)
      clear hbs
      clear hb
      rw [chk_yes c OK.out]
      go_wp2_with fail
      refine (round_big a1 12 (by omega) (by omega) _).mono ?_
      rintro e w_ ⟨rfl, rfl⟩
      rw [HR.out]
      have hC := (C.out.set 5 (.int .i64 a2))
      rw [cc_set5] at hC
      have HB2 := Lib.hid (HB.out.setCell (p := ⟨gc, 5, none⟩) b_gc (.int .i64 a2))
      have r_D := hC.row
      have o_D := hC.open
      clear hC
      rcases (show a2 < 1 ∨ (1 ≤ a2 ∧ 64 < a2) ∨ (1 ≤ a2 ∧ a2 ≤ 64) by omega) with q1 | ⟨q1, q2⟩ | ⟨q1, q2⟩
      · have qd : decide (1 ≤ a2) = false := by simpa using q1
        have E := Lib.hid (show cok { c with slots := a2 } = false by rw [cok_set5 c a2 OK.out]; simp [wi]; omega)
        have r_C := C.out.row
        have o_C := C.out.open
        have l_C := C.out.lt
        have c_C := C.out.cell
        have z_C := C.out.frozen
        go_wp2_with fail
        clear r_C o_C l_C c_C z_C
        refine (check_any { c with slots := a2 } _).mono ?_
        rintro e w3 ⟨rfl, hb⟩
        rw [chk_no _ E.out]
        go_wp2_with fail
        refine (awake_any _).mono ?_
        rintro e w4 ⟨rfl, hb2⟩
        go_wp2_with fail
        go_ret
        exact ⟨rfl, step_below (step_below HB2.out hb) hb2⟩
      · have qd : decide (a2 ≤ 64) = false := by simpa using q2
        have E := Lib.hid (show cok { c with slots := a2 } = false by rw [cok_set5 c a2 OK.out]; simp only [wi]; rw [qd]; simp)
        have r_C := C.out.row
        have o_C := C.out.open
        have l_C := C.out.lt
        have c_C := C.out.cell
        have z_C := C.out.frozen
        go_wp2_with fail
        clear r_C o_C l_C c_C z_C
        refine (check_any { c with slots := a2 } _).mono ?_
        rintro e w3 ⟨rfl, hb⟩
        rw [chk_no _ E.out]
        go_wp2_with fail
        refine (awake_any _).mono ?_
        rintro e w4 ⟨rfl, hb2⟩
        go_wp2_with fail
        go_ret
        exact ⟨rfl, step_below (step_below HB2.out hb) hb2⟩
      · have qd : decide (a2 ≤ 64) = true := by simpa using q2
        have E := Lib.hid (show cok { c with slots := a2 } = true by rw [cok_set5 c a2 OK.out]; exact wi_of q1 q2)
        have r_C := C.out.row
        have o_C := C.out.open
        have l_C := C.out.lt
        have c_C := C.out.cell
        have z_C := C.out.frozen
        go_wp2_with fail
        clear r_C o_C l_C c_C z_C
        refine (check_any { c with slots := a2 } _).mono ?_
        rintro e w3 ⟨rfl, hb⟩
        rw [chk_yes _ E.out]
        go_wp2_with fail
        refine (awake_any _).mono ?_
        rintro e w4 ⟨rfl, hb2⟩
        go_wp2_with fail
        go_ret
        exact ⟨rfl, step_below (step_below HB2.out hb) hb2⟩
    · go_enter Try.func3, Try.ntmps3
      have HB := Lib.hid (Below.refl w.heap.size w)
      go_wp2_with fail
      refine (KC.out _ HI.out).mono ?_
      rintro e w1 ⟨rfl, hb⟩
      have hbs : Below w.heap.size w w1 := step_below (by first | exact Below.refl _ _ | exact (Below.refl _ _).drew | exact (Below.refl _ _).alloc (Nat.le_refl _) _ | exact ((Below.refl _ _).alloc (Nat.le_refl _) _).drew | exact ((Below.refl _ _).drew).alloc (Nat.le_refl _) _ | exact ((Below.refl _ _).alloc (Nat.le_refl _) _).alloc (by simp) _ | exact (((Below.refl _ _).alloc (Nat.le_refl _) _).alloc (by simp) _).drew | exact (((Below.refl _ _).alloc (Nat.le_refl _) _).alloc (by simp) _).alloc (by simp; omega) _) hb
      replace HB := Lib.hid (step_below HB.out hbs)
      clear hbs
      clear hb
      go_wp2_with fail
      have HBp := HB
      have C := at_new w1 29 (cc c) _ rfl
      replace HB := Lib.hid (HB.out.alloc HB.out.size (.cells (cc c) 29))
      obtain ⟨gc, hg⟩ : ∃ g, g = w1.heap.size := ⟨_, rfl⟩
      have b_gc : w.heap.size ≤ gc := by rw [hg]; exact HBp.out.size
      rw [← hg] at C
      try rw [← hg]
      clear hg HBp
      replace C := Lib.hid C
      generalize w1.alloc (.cells (cc c) 29) = w2 at *
      have r_C := C.out.row
      have o_C := C.out.open
      have l_C := C.out.lt
      have c_C := C.out.cell
      have z_C := C.out.frozen
      go_wp2_with fail
      clear r_C o_C l_C c_C z_C
      refine (check_any c _).mono ?_
      rintro e w3 ⟨rfl, hb⟩
      have hbs : Below w2.heap.size w2 w3 := step_below (by first | exact Below.refl _ _ | exact (Below.refl _ _).drew | exact (Below.refl _ _).alloc (Nat.le_refl _) _ | exact ((Below.refl _ _).alloc (Nat.le_refl _) _).drew | exact ((Below.refl _ _).drew).alloc (Nat.le_refl _) _ | exact ((Below.refl _ _).alloc (Nat.le_refl _) _).alloc (by simp) _ | exact (((Below.refl _ _).alloc (Nat.le_refl _) _).alloc (by simp) _).drew | exact (((Below.refl _ _).alloc (Nat.le_refl _) _).alloc (by simp) _).alloc (by simp; omega) _) hb
      replace HB := Lib.hid (step_below HB.out hbs)
      replace C := Lib.hid (C.out.below hbs C.out.lt)
      clear hbs
      clear hb
      rw [chk_yes c OK.out]
      go_wp2_with fail
      refine (round_big a1 12 (by omega) (by omega) _).mono ?_
      rintro e w_ ⟨rfl, rfl⟩
      rw [HR.out]
      have hC := (C.out.set 6 (.int .i64 a2))
      rw [cc_set6] at hC
      have HB2 := Lib.hid (HB.out.setCell (p := ⟨gc, 6, none⟩) b_gc (.int .i64 a2))
      have r_D := hC.row
      have o_D := hC.open
      clear hC
      rcases (show a2 < 2 ∨ (2 ≤ a2 ∧ 16 < a2) ∨ (2 ≤ a2 ∧ a2 ≤ 16) by omega) with q1 | ⟨q1, q2⟩ | ⟨q1, q2⟩
      · have qd : decide (2 ≤ a2) = false := by simpa using q1
        have E := Lib.hid (show cok { c with versions := a2 } = false by rw [cok_set6 c a2 OK.out]; simp [wi]; omega)
        have r_C := C.out.row
        have o_C := C.out.open
        have l_C := C.out.lt
        have c_C := C.out.cell
        have z_C := C.out.frozen
        go_wp2_with fail
        clear r_C o_C l_C c_C z_C
        refine (check_any { c with versions := a2 } _).mono ?_
        rintro e w3 ⟨rfl, hb⟩
        rw [chk_no _ E.out]
        go_wp2_with fail
        refine (awake_any _).mono ?_
        rintro e w4 ⟨rfl, hb2⟩
        go_wp2_with fail
        go_ret
        exact ⟨rfl, step_below (step_below HB2.out hb) hb2⟩
      · have qd : decide (a2 ≤ 16) = false := by simpa using q2
        have E := Lib.hid (show cok { c with versions := a2 } = false by rw [cok_set6 c a2 OK.out]; simp only [wi]; rw [qd]; simp)
        have r_C := C.out.row
        have o_C := C.out.open
        have l_C := C.out.lt
        have c_C := C.out.cell
        have z_C := C.out.frozen
        go_wp2_with fail
        clear r_C o_C l_C c_C z_C
        refine (check_any { c with versions := a2 } _).mono ?_
        rintro e w3 ⟨rfl, hb⟩
        rw [chk_no _ E.out]
        go_wp2_with fail
        refine (awake_any _).mono ?_
        rintro e w4 ⟨rfl, hb2⟩
        go_wp2_with fail
        go_ret
        exact ⟨rfl, step_below (step_below HB2.out hb) hb2⟩
      · have qd : decide (a2 ≤ 16) = true := by simpa using q2
        have E := Lib.hid (show cok { c with versions := a2 } = true by rw [cok_set6 c a2 OK.out]; exact wi_of q1 q2)
        have r_C := C.out.row
        have o_C := C.out.open
        have l_C := C.out.lt
        have c_C := C.out.cell
        have z_C := C.out.frozen
        go_wp2_with fail
        clear r_C o_C l_C c_C z_C
        refine (check_any { c with versions := a2 } _).mono ?_
        rintro e w3 ⟨rfl, hb⟩
        rw [chk_yes _ E.out]
        go_wp2_with fail
        refine (awake_any _).mono ?_
        rintro e w4 ⟨rfl, hb2⟩
        go_wp2_with fail
        go_ret
        exact ⟨rfl, step_below (step_below HB2.out hb) hb2⟩
    · go_enter Try.func3, Try.ntmps3
      have HB := Lib.hid (Below.refl w.heap.size w)
      go_wp2_with fail
      refine (KC.out _ HI.out).mono ?_
      rintro e w1 ⟨rfl, hb⟩
      have hbs : Below w.heap.size w w1 := step_below (by first | exact Below.refl _ _ | exact (Below.refl _ _).drew | exact (Below.refl _ _).alloc (Nat.le_refl _) _ | exact ((Below.refl _ _).alloc (Nat.le_refl _) _).drew | exact ((Below.refl _ _).drew).alloc (Nat.le_refl _) _ | exact ((Below.refl _ _).alloc (Nat.le_refl _) _).alloc (by simp) _ | exact (((Below.refl _ _).alloc (Nat.le_refl _) _).alloc (by simp) _).drew | exact (((Below.refl _ _).alloc (Nat.le_refl _) _).alloc (by simp) _).alloc (by simp; omega) _) hb
      replace HB := Lib.hid (step_below HB.out hbs)
      clear hbs
      clear hb
      go_wp2_with fail
      have HBp := HB
      have C := at_new w1 29 (cc c) _ rfl
      replace HB := Lib.hid (HB.out.alloc HB.out.size (.cells (cc c) 29))
      obtain ⟨gc, hg⟩ : ∃ g, g = w1.heap.size := ⟨_, rfl⟩
      have b_gc : w.heap.size ≤ gc := by rw [hg]; exact HBp.out.size
      rw [← hg] at C
      try rw [← hg]
      clear hg HBp
      replace C := Lib.hid C
      generalize w1.alloc (.cells (cc c) 29) = w2 at *
      have r_C := C.out.row
      have o_C := C.out.open
      have l_C := C.out.lt
      have c_C := C.out.cell
      have z_C := C.out.frozen
      go_wp2_with fail
      clear r_C o_C l_C c_C z_C
      refine (check_any c _).mono ?_
      rintro e w3 ⟨rfl, hb⟩
      have hbs : Below w2.heap.size w2 w3 := step_below (by first | exact Below.refl _ _ | exact (Below.refl _ _).drew | exact (Below.refl _ _).alloc (Nat.le_refl _) _ | exact ((Below.refl _ _).alloc (Nat.le_refl _) _).drew | exact ((Below.refl _ _).drew).alloc (Nat.le_refl _) _ | exact ((Below.refl _ _).alloc (Nat.le_refl _) _).alloc (by simp) _ | exact (((Below.refl _ _).alloc (Nat.le_refl _) _).alloc (by simp) _).drew | exact (((Below.refl _ _).alloc (Nat.le_refl _) _).alloc (by simp) _).alloc (by simp; omega) _) hb
      replace HB := Lib.hid (step_below HB.out hbs)
      replace C := Lib.hid (C.out.below hbs C.out.lt)
      clear hbs
      clear hb
      rw [chk_yes c OK.out]
      go_wp2_with fail
      refine (round_big a1 12 (by omega) (by omega) _).mono ?_
      rintro e w_ ⟨rfl, rfl⟩
      rw [HR.out]
      have hC := (C.out.set 7 (.int .i64 a2))
      rw [cc_set7] at hC
      have HB2 := Lib.hid (HB.out.setCell (p := ⟨gc, 7, none⟩) b_gc (.int .i64 a2))
      have r_D := hC.row
      have o_D := hC.open
      clear hC
      rcases (show a2 < 1 ∨ (1 ≤ a2 ∧ 256 < a2) ∨ (1 ≤ a2 ∧ a2 ≤ 256) by omega) with q1 | ⟨q1, q2⟩ | ⟨q1, q2⟩
      · have qd : decide (1 ≤ a2) = false := by simpa using q1
        have E := Lib.hid (show cok { c with queue := a2 } = false by rw [cok_set7 c a2 OK.out]; simp [wi]; omega)
        have r_C := C.out.row
        have o_C := C.out.open
        have l_C := C.out.lt
        have c_C := C.out.cell
        have z_C := C.out.frozen
        go_wp2_with fail
        clear r_C o_C l_C c_C z_C
        refine (check_any { c with queue := a2 } _).mono ?_
        rintro e w3 ⟨rfl, hb⟩
        rw [chk_no _ E.out]
        go_wp2_with fail
        refine (awake_any _).mono ?_
        rintro e w4 ⟨rfl, hb2⟩
        go_wp2_with fail
        go_ret
        exact ⟨rfl, step_below (step_below HB2.out hb) hb2⟩
      · have qd : decide (a2 ≤ 256) = false := by simpa using q2
        have E := Lib.hid (show cok { c with queue := a2 } = false by rw [cok_set7 c a2 OK.out]; simp only [wi]; rw [qd]; simp)
        have r_C := C.out.row
        have o_C := C.out.open
        have l_C := C.out.lt
        have c_C := C.out.cell
        have z_C := C.out.frozen
        go_wp2_with fail
        clear r_C o_C l_C c_C z_C
        refine (check_any { c with queue := a2 } _).mono ?_
        rintro e w3 ⟨rfl, hb⟩
        rw [chk_no _ E.out]
        go_wp2_with fail
        refine (awake_any _).mono ?_
        rintro e w4 ⟨rfl, hb2⟩
        go_wp2_with fail
        go_ret
        exact ⟨rfl, step_below (step_below HB2.out hb) hb2⟩
      · have qd : decide (a2 ≤ 256) = true := by simpa using q2
        have E := Lib.hid (show cok { c with queue := a2 } = true by rw [cok_set7 c a2 OK.out]; exact wi_of q1 q2)
        have r_C := C.out.row
        have o_C := C.out.open
        have l_C := C.out.lt
        have c_C := C.out.cell
        have z_C := C.out.frozen
        go_wp2_with fail
        clear r_C o_C l_C c_C z_C
        refine (check_any { c with queue := a2 } _).mono ?_
        rintro e w3 ⟨rfl, hb⟩
        rw [chk_yes _ E.out]
        go_wp2_with fail
        refine (awake_any _).mono ?_
        rintro e w4 ⟨rfl, hb2⟩
        go_wp2_with fail
        go_ret
        exact ⟨rfl, step_below (step_below HB2.out hb) hb2⟩
    · go_enter Try.func3, Try.ntmps3
      have HB := Lib.hid (Below.refl w.heap.size w)
      go_wp2_with fail
      refine (KC.out _ HI.out).mono ?_
      rintro e w1 ⟨rfl, hb⟩
      have hbs : Below w.heap.size w w1 := step_below (by first | exact Below.refl _ _ | exact (Below.refl _ _).drew | exact (Below.refl _ _).alloc (Nat.le_refl _) _ | exact ((Below.refl _ _).alloc (Nat.le_refl _) _).drew | exact ((Below.refl _ _).drew).alloc (Nat.le_refl _) _ | exact ((Below.refl _ _).alloc (Nat.le_refl _) _).alloc (by simp) _ | exact (((Below.refl _ _).alloc (Nat.le_refl _) _).alloc (by simp) _).drew | exact (((Below.refl _ _).alloc (Nat.le_refl _) _).alloc (by simp) _).alloc (by simp; omega) _) hb
      replace HB := Lib.hid (step_below HB.out hbs)
      clear hbs
      clear hb
      go_wp2_with fail
      have HBp := HB
      have C := at_new w1 29 (cc c) _ rfl
      replace HB := Lib.hid (HB.out.alloc HB.out.size (.cells (cc c) 29))
      obtain ⟨gc, hg⟩ : ∃ g, g = w1.heap.size := ⟨_, rfl⟩
      have b_gc : w.heap.size ≤ gc := by rw [hg]; exact HBp.out.size
      rw [← hg] at C
      try rw [← hg]
      clear hg HBp
      replace C := Lib.hid C
      generalize w1.alloc (.cells (cc c) 29) = w2 at *
      have r_C := C.out.row
      have o_C := C.out.open
      have l_C := C.out.lt
      have c_C := C.out.cell
      have z_C := C.out.frozen
      go_wp2_with fail
      clear r_C o_C l_C c_C z_C
      refine (check_any c _).mono ?_
      rintro e w3 ⟨rfl, hb⟩
      have hbs : Below w2.heap.size w2 w3 := step_below (by first | exact Below.refl _ _ | exact (Below.refl _ _).drew | exact (Below.refl _ _).alloc (Nat.le_refl _) _ | exact ((Below.refl _ _).alloc (Nat.le_refl _) _).drew | exact ((Below.refl _ _).drew).alloc (Nat.le_refl _) _ | exact ((Below.refl _ _).alloc (Nat.le_refl _) _).alloc (by simp) _ | exact (((Below.refl _ _).alloc (Nat.le_refl _) _).alloc (by simp) _).drew | exact (((Below.refl _ _).alloc (Nat.le_refl _) _).alloc (by simp) _).alloc (by simp; omega) _) hb
      replace HB := Lib.hid (step_below HB.out hbs)
      replace C := Lib.hid (C.out.below hbs C.out.lt)
      clear hbs
      clear hb
      rw [chk_yes c OK.out]
      go_wp2_with fail
      refine (round_big a1 12 (by omega) (by omega) _).mono ?_
      rintro e w_ ⟨rfl, rfl⟩
      rw [HR.out]
      have hC := (C.out.set 8 (.int .i64 a2))
      rw [cc_set8] at hC
      have HB2 := Lib.hid (HB.out.setCell (p := ⟨gc, 8, none⟩) b_gc (.int .i64 a2))
      have r_D := hC.row
      have o_D := hC.open
      clear hC
      rcases (show a2 < 1 ∨ (1 ≤ a2 ∧ 64 < a2) ∨ (1 ≤ a2 ∧ a2 ≤ 64) by omega) with q1 | ⟨q1, q2⟩ | ⟨q1, q2⟩
      · have qd : decide (1 ≤ a2) = false := by simpa using q1
        have E := Lib.hid (show cok { c with evict := a2 } = false by rw [cok_set8 c a2 OK.out]; simp [wi]; omega)
        have r_C := C.out.row
        have o_C := C.out.open
        have l_C := C.out.lt
        have c_C := C.out.cell
        have z_C := C.out.frozen
        go_wp2_with fail
        clear r_C o_C l_C c_C z_C
        refine (check_any { c with evict := a2 } _).mono ?_
        rintro e w3 ⟨rfl, hb⟩
        rw [chk_no _ E.out]
        go_wp2_with fail
        refine (awake_any _).mono ?_
        rintro e w4 ⟨rfl, hb2⟩
        go_wp2_with fail
        go_ret
        exact ⟨rfl, step_below (step_below HB2.out hb) hb2⟩
      · have qd : decide (a2 ≤ 64) = false := by simpa using q2
        have E := Lib.hid (show cok { c with evict := a2 } = false by rw [cok_set8 c a2 OK.out]; simp only [wi]; rw [qd]; simp)
        have r_C := C.out.row
        have o_C := C.out.open
        have l_C := C.out.lt
        have c_C := C.out.cell
        have z_C := C.out.frozen
        go_wp2_with fail
        clear r_C o_C l_C c_C z_C
        refine (check_any { c with evict := a2 } _).mono ?_
        rintro e w3 ⟨rfl, hb⟩
        rw [chk_no _ E.out]
        go_wp2_with fail
        refine (awake_any _).mono ?_
        rintro e w4 ⟨rfl, hb2⟩
        go_wp2_with fail
        go_ret
        exact ⟨rfl, step_below (step_below HB2.out hb) hb2⟩
      · have qd : decide (a2 ≤ 64) = true := by simpa using q2
        have E := Lib.hid (show cok { c with evict := a2 } = true by rw [cok_set8 c a2 OK.out]; exact wi_of q1 q2)
        have r_C := C.out.row
        have o_C := C.out.open
        have l_C := C.out.lt
        have c_C := C.out.cell
        have z_C := C.out.frozen
        go_wp2_with fail
        clear r_C o_C l_C c_C z_C
        refine (check_any { c with evict := a2 } _).mono ?_
        rintro e w3 ⟨rfl, hb⟩
        rw [chk_yes _ E.out]
        go_wp2_with fail
        refine (awake_any _).mono ?_
        rintro e w4 ⟨rfl, hb2⟩
        go_wp2_with fail
        go_ret
        exact ⟨rfl, step_below (step_below HB2.out hb) hb2⟩
    · go_enter Try.func3, Try.ntmps3
      have HB := Lib.hid (Below.refl w.heap.size w)
      go_wp2_with fail
      refine (KC.out _ HI.out).mono ?_
      rintro e w1 ⟨rfl, hb⟩
      have hbs : Below w.heap.size w w1 := step_below (by first | exact Below.refl _ _ | exact (Below.refl _ _).drew | exact (Below.refl _ _).alloc (Nat.le_refl _) _ | exact ((Below.refl _ _).alloc (Nat.le_refl _) _).drew | exact ((Below.refl _ _).drew).alloc (Nat.le_refl _) _ | exact ((Below.refl _ _).alloc (Nat.le_refl _) _).alloc (by simp) _ | exact (((Below.refl _ _).alloc (Nat.le_refl _) _).alloc (by simp) _).drew | exact (((Below.refl _ _).alloc (Nat.le_refl _) _).alloc (by simp) _).alloc (by simp; omega) _) hb
      replace HB := Lib.hid (step_below HB.out hbs)
      clear hbs
      clear hb
      go_wp2_with fail
      have HBp := HB
      have C := at_new w1 29 (cc c) _ rfl
      replace HB := Lib.hid (HB.out.alloc HB.out.size (.cells (cc c) 29))
      obtain ⟨gc, hg⟩ : ∃ g, g = w1.heap.size := ⟨_, rfl⟩
      have b_gc : w.heap.size ≤ gc := by rw [hg]; exact HBp.out.size
      rw [← hg] at C
      try rw [← hg]
      clear hg HBp
      replace C := Lib.hid C
      generalize w1.alloc (.cells (cc c) 29) = w2 at *
      have r_C := C.out.row
      have o_C := C.out.open
      have l_C := C.out.lt
      have c_C := C.out.cell
      have z_C := C.out.frozen
      go_wp2_with fail
      clear r_C o_C l_C c_C z_C
      refine (check_any c _).mono ?_
      rintro e w3 ⟨rfl, hb⟩
      have hbs : Below w2.heap.size w2 w3 := step_below (by first | exact Below.refl _ _ | exact (Below.refl _ _).drew | exact (Below.refl _ _).alloc (Nat.le_refl _) _ | exact ((Below.refl _ _).alloc (Nat.le_refl _) _).drew | exact ((Below.refl _ _).drew).alloc (Nat.le_refl _) _ | exact ((Below.refl _ _).alloc (Nat.le_refl _) _).alloc (by simp) _ | exact (((Below.refl _ _).alloc (Nat.le_refl _) _).alloc (by simp) _).drew | exact (((Below.refl _ _).alloc (Nat.le_refl _) _).alloc (by simp) _).alloc (by simp; omega) _) hb
      replace HB := Lib.hid (step_below HB.out hbs)
      replace C := Lib.hid (C.out.below hbs C.out.lt)
      clear hbs
      clear hb
      rw [chk_yes c OK.out]
      go_wp2_with fail
      refine (round_big a1 12 (by omega) (by omega) _).mono ?_
      rintro e w_ ⟨rfl, rfl⟩
      rw [HR.out]
      have hC := (C.out.set 9 (.int .i64 a2))
      rw [cc_set9] at hC
      have HB2 := Lib.hid (HB.out.setCell (p := ⟨gc, 9, none⟩) b_gc (.int .i64 a2))
      have r_D := hC.row
      have o_D := hC.open
      clear hC
      rcases (show a2 < 1 ∨ (1 ≤ a2 ∧ 1000 < a2) ∨ (1 ≤ a2 ∧ a2 ≤ 1000) by omega) with q1 | ⟨q1, q2⟩ | ⟨q1, q2⟩
      · have qd : decide (1 ≤ a2) = false := by simpa using q1
        have E := Lib.hid (show cok { c with idle := a2 } = false by rw [cok_set9 c a2 OK.out]; simp [wi]; omega)
        have r_C := C.out.row
        have o_C := C.out.open
        have l_C := C.out.lt
        have c_C := C.out.cell
        have z_C := C.out.frozen
        go_wp2_with fail
        clear r_C o_C l_C c_C z_C
        refine (check_any { c with idle := a2 } _).mono ?_
        rintro e w3 ⟨rfl, hb⟩
        rw [chk_no _ E.out]
        go_wp2_with fail
        refine (awake_any _).mono ?_
        rintro e w4 ⟨rfl, hb2⟩
        go_wp2_with fail
        go_ret
        exact ⟨rfl, step_below (step_below HB2.out hb) hb2⟩
      · have qd : decide (a2 ≤ 1000) = false := by simpa using q2
        have E := Lib.hid (show cok { c with idle := a2 } = false by rw [cok_set9 c a2 OK.out]; simp only [wi]; rw [qd]; simp)
        have r_C := C.out.row
        have o_C := C.out.open
        have l_C := C.out.lt
        have c_C := C.out.cell
        have z_C := C.out.frozen
        go_wp2_with fail
        clear r_C o_C l_C c_C z_C
        refine (check_any { c with idle := a2 } _).mono ?_
        rintro e w3 ⟨rfl, hb⟩
        rw [chk_no _ E.out]
        go_wp2_with fail
        refine (awake_any _).mono ?_
        rintro e w4 ⟨rfl, hb2⟩
        go_wp2_with fail
        go_ret
        exact ⟨rfl, step_below (step_below HB2.out hb) hb2⟩
      · have qd : decide (a2 ≤ 1000) = true := by simpa using q2
        have E := Lib.hid (show cok { c with idle := a2 } = true by rw [cok_set9 c a2 OK.out]; exact wi_of q1 q2)
        have r_C := C.out.row
        have o_C := C.out.open
        have l_C := C.out.lt
        have c_C := C.out.cell
        have z_C := C.out.frozen
        go_wp2_with fail
        clear r_C o_C l_C c_C z_C
        refine (check_any { c with idle := a2 } _).mono ?_
        rintro e w3 ⟨rfl, hb⟩
        rw [chk_yes _ E.out]
        go_wp2_with fail
        refine (awake_any _).mono ?_
        rintro e w4 ⟨rfl, hb2⟩
        go_wp2_with fail
        go_ret
        exact ⟨rfl, step_below (step_below HB2.out hb) hb2⟩
    · go_enter Try.func3, Try.ntmps3
      have HB := Lib.hid (Below.refl w.heap.size w)
      go_wp2_with fail
      refine (KC.out _ HI.out).mono ?_
      rintro e w1 ⟨rfl, hb⟩
      have hbs : Below w.heap.size w w1 := step_below (by first | exact Below.refl _ _ | exact (Below.refl _ _).drew | exact (Below.refl _ _).alloc (Nat.le_refl _) _ | exact ((Below.refl _ _).alloc (Nat.le_refl _) _).drew | exact ((Below.refl _ _).drew).alloc (Nat.le_refl _) _ | exact ((Below.refl _ _).alloc (Nat.le_refl _) _).alloc (by simp) _ | exact (((Below.refl _ _).alloc (Nat.le_refl _) _).alloc (by simp) _).drew | exact (((Below.refl _ _).alloc (Nat.le_refl _) _).alloc (by simp) _).alloc (by simp; omega) _) hb
      replace HB := Lib.hid (step_below HB.out hbs)
      clear hbs
      clear hb
      go_wp2_with fail
      have HBp := HB
      have C := at_new w1 29 (cc c) _ rfl
      replace HB := Lib.hid (HB.out.alloc HB.out.size (.cells (cc c) 29))
      obtain ⟨gc, hg⟩ : ∃ g, g = w1.heap.size := ⟨_, rfl⟩
      have b_gc : w.heap.size ≤ gc := by rw [hg]; exact HBp.out.size
      rw [← hg] at C
      try rw [← hg]
      clear hg HBp
      replace C := Lib.hid C
      generalize w1.alloc (.cells (cc c) 29) = w2 at *
      have r_C := C.out.row
      have o_C := C.out.open
      have l_C := C.out.lt
      have c_C := C.out.cell
      have z_C := C.out.frozen
      go_wp2_with fail
      clear r_C o_C l_C c_C z_C
      refine (check_any c _).mono ?_
      rintro e w3 ⟨rfl, hb⟩
      have hbs : Below w2.heap.size w2 w3 := step_below (by first | exact Below.refl _ _ | exact (Below.refl _ _).drew | exact (Below.refl _ _).alloc (Nat.le_refl _) _ | exact ((Below.refl _ _).alloc (Nat.le_refl _) _).drew | exact ((Below.refl _ _).drew).alloc (Nat.le_refl _) _ | exact ((Below.refl _ _).alloc (Nat.le_refl _) _).alloc (by simp) _ | exact (((Below.refl _ _).alloc (Nat.le_refl _) _).alloc (by simp) _).drew | exact (((Below.refl _ _).alloc (Nat.le_refl _) _).alloc (by simp) _).alloc (by simp; omega) _) hb
      replace HB := Lib.hid (step_below HB.out hbs)
      replace C := Lib.hid (C.out.below hbs C.out.lt)
      clear hbs
      clear hb
      rw [chk_yes c OK.out]
      go_wp2_with fail
      refine (round_big a1 12 (by omega) (by omega) _).mono ?_
      rintro e w_ ⟨rfl, rfl⟩
      rw [HR.out]
      have hC := (C.out.set 10 (.int .i64 a2))
      rw [cc_set10] at hC
      have HB2 := Lib.hid (HB.out.setCell (p := ⟨gc, 10, none⟩) b_gc (.int .i64 a2))
      have r_D := hC.row
      have o_D := hC.open
      clear hC
      rcases (show a2 < 1 ∨ (1 ≤ a2 ∧ 1000 < a2) ∨ (1 ≤ a2 ∧ a2 ≤ 1000) by omega) with q1 | ⟨q1, q2⟩ | ⟨q1, q2⟩
      · have qd : decide (1 ≤ a2) = false := by simpa using q1
        have E := Lib.hid (show cok { c with linger := a2 } = false by rw [cok_set10 c a2 OK.out]; simp [wi]; omega)
        have r_C := C.out.row
        have o_C := C.out.open
        have l_C := C.out.lt
        have c_C := C.out.cell
        have z_C := C.out.frozen
        go_wp2_with fail
        clear r_C o_C l_C c_C z_C
        refine (check_any { c with linger := a2 } _).mono ?_
        rintro e w3 ⟨rfl, hb⟩
        rw [chk_no _ E.out]
        go_wp2_with fail
        refine (awake_any _).mono ?_
        rintro e w4 ⟨rfl, hb2⟩
        go_wp2_with fail
        go_ret
        exact ⟨rfl, step_below (step_below HB2.out hb) hb2⟩
      · have qd : decide (a2 ≤ 1000) = false := by simpa using q2
        have E := Lib.hid (show cok { c with linger := a2 } = false by rw [cok_set10 c a2 OK.out]; simp only [wi]; rw [qd]; simp)
        have r_C := C.out.row
        have o_C := C.out.open
        have l_C := C.out.lt
        have c_C := C.out.cell
        have z_C := C.out.frozen
        go_wp2_with fail
        clear r_C o_C l_C c_C z_C
        refine (check_any { c with linger := a2 } _).mono ?_
        rintro e w3 ⟨rfl, hb⟩
        rw [chk_no _ E.out]
        go_wp2_with fail
        refine (awake_any _).mono ?_
        rintro e w4 ⟨rfl, hb2⟩
        go_wp2_with fail
        go_ret
        exact ⟨rfl, step_below (step_below HB2.out hb) hb2⟩
      · have qd : decide (a2 ≤ 1000) = true := by simpa using q2
        have E := Lib.hid (show cok { c with linger := a2 } = true by rw [cok_set10 c a2 OK.out]; exact wi_of q1 q2)
        have r_C := C.out.row
        have o_C := C.out.open
        have l_C := C.out.lt
        have c_C := C.out.cell
        have z_C := C.out.frozen
        go_wp2_with fail
        clear r_C o_C l_C c_C z_C
        refine (check_any { c with linger := a2 } _).mono ?_
        rintro e w3 ⟨rfl, hb⟩
        rw [chk_yes _ E.out]
        go_wp2_with fail
        refine (awake_any _).mono ?_
        rintro e w4 ⟨rfl, hb2⟩
        go_wp2_with fail
        go_ret
        exact ⟨rfl, step_below (step_below HB2.out hb) hb2⟩
    · go_enter Try.func3, Try.ntmps3
      have HB := Lib.hid (Below.refl w.heap.size w)
      go_wp2_with fail
      refine (KC.out _ HI.out).mono ?_
      rintro e w1 ⟨rfl, hb⟩
      have hbs : Below w.heap.size w w1 := step_below (by first | exact Below.refl _ _ | exact (Below.refl _ _).drew | exact (Below.refl _ _).alloc (Nat.le_refl _) _ | exact ((Below.refl _ _).alloc (Nat.le_refl _) _).drew | exact ((Below.refl _ _).drew).alloc (Nat.le_refl _) _ | exact ((Below.refl _ _).alloc (Nat.le_refl _) _).alloc (by simp) _ | exact (((Below.refl _ _).alloc (Nat.le_refl _) _).alloc (by simp) _).drew | exact (((Below.refl _ _).alloc (Nat.le_refl _) _).alloc (by simp) _).alloc (by simp; omega) _) hb
      replace HB := Lib.hid (step_below HB.out hbs)
      clear hbs
      clear hb
      go_wp2_with fail
      have HBp := HB
      have C := at_new w1 29 (cc c) _ rfl
      replace HB := Lib.hid (HB.out.alloc HB.out.size (.cells (cc c) 29))
      obtain ⟨gc, hg⟩ : ∃ g, g = w1.heap.size := ⟨_, rfl⟩
      have b_gc : w.heap.size ≤ gc := by rw [hg]; exact HBp.out.size
      rw [← hg] at C
      try rw [← hg]
      clear hg HBp
      replace C := Lib.hid C
      generalize w1.alloc (.cells (cc c) 29) = w2 at *
      have r_C := C.out.row
      have o_C := C.out.open
      have l_C := C.out.lt
      have c_C := C.out.cell
      have z_C := C.out.frozen
      go_wp2_with fail
      clear r_C o_C l_C c_C z_C
      refine (check_any c _).mono ?_
      rintro e w3 ⟨rfl, hb⟩
      have hbs : Below w2.heap.size w2 w3 := step_below (by first | exact Below.refl _ _ | exact (Below.refl _ _).drew | exact (Below.refl _ _).alloc (Nat.le_refl _) _ | exact ((Below.refl _ _).alloc (Nat.le_refl _) _).drew | exact ((Below.refl _ _).drew).alloc (Nat.le_refl _) _ | exact ((Below.refl _ _).alloc (Nat.le_refl _) _).alloc (by simp) _ | exact (((Below.refl _ _).alloc (Nat.le_refl _) _).alloc (by simp) _).drew | exact (((Below.refl _ _).alloc (Nat.le_refl _) _).alloc (by simp) _).alloc (by simp; omega) _) hb
      replace HB := Lib.hid (step_below HB.out hbs)
      replace C := Lib.hid (C.out.below hbs C.out.lt)
      clear hbs
      clear hb
      rw [chk_yes c OK.out]
      go_wp2_with fail
      refine (round_big a1 12 (by omega) (by omega) _).mono ?_
      rintro e w_ ⟨rfl, rfl⟩
      rw [HR.out]
      have hC := (C.out.set 11 (.int .i64 a2))
      rw [cc_set11] at hC
      have HB2 := Lib.hid (HB.out.setCell (p := ⟨gc, 11, none⟩) b_gc (.int .i64 a2))
      have r_D := hC.row
      have o_D := hC.open
      clear hC
      rcases (show a2 < 1 ∨ (1 ≤ a2 ∧ 10 < a2) ∨ (1 ≤ a2 ∧ a2 ≤ 10) by omega) with q1 | ⟨q1, q2⟩ | ⟨q1, q2⟩
      · have qd : decide (1 ≤ a2) = false := by simpa using q1
        have E := Lib.hid (show cok { c with fails := a2 } = false by rw [cok_set11 c a2 OK.out]; simp [wi]; omega)
        have r_C := C.out.row
        have o_C := C.out.open
        have l_C := C.out.lt
        have c_C := C.out.cell
        have z_C := C.out.frozen
        go_wp2_with fail
        clear r_C o_C l_C c_C z_C
        refine (check_any { c with fails := a2 } _).mono ?_
        rintro e w3 ⟨rfl, hb⟩
        rw [chk_no _ E.out]
        go_wp2_with fail
        refine (awake_any _).mono ?_
        rintro e w4 ⟨rfl, hb2⟩
        go_wp2_with fail
        go_ret
        exact ⟨rfl, step_below (step_below HB2.out hb) hb2⟩
      · have qd : decide (a2 ≤ 10) = false := by simpa using q2
        have E := Lib.hid (show cok { c with fails := a2 } = false by rw [cok_set11 c a2 OK.out]; simp only [wi]; rw [qd]; simp)
        have r_C := C.out.row
        have o_C := C.out.open
        have l_C := C.out.lt
        have c_C := C.out.cell
        have z_C := C.out.frozen
        go_wp2_with fail
        clear r_C o_C l_C c_C z_C
        refine (check_any { c with fails := a2 } _).mono ?_
        rintro e w3 ⟨rfl, hb⟩
        rw [chk_no _ E.out]
        go_wp2_with fail
        refine (awake_any _).mono ?_
        rintro e w4 ⟨rfl, hb2⟩
        go_wp2_with fail
        go_ret
        exact ⟨rfl, step_below (step_below HB2.out hb) hb2⟩
      · have qd : decide (a2 ≤ 10) = true := by simpa using q2
        have E := Lib.hid (show cok { c with fails := a2 } = true by rw [cok_set11 c a2 OK.out]; exact wi_of q1 q2)
        have r_C := C.out.row
        have o_C := C.out.open
        have l_C := C.out.lt
        have c_C := C.out.cell
        have z_C := C.out.frozen
        go_wp2_with fail
        clear r_C o_C l_C c_C z_C
        refine (check_any { c with fails := a2 } _).mono ?_
        rintro e w3 ⟨rfl, hb⟩
        rw [chk_yes _ E.out]
        go_wp2_with fail
        refine (awake_any _).mono ?_
        rintro e w4 ⟨rfl, hb2⟩
        go_wp2_with fail
        go_ret
        exact ⟨rfl, step_below (step_below HB2.out hb) hb2⟩
end Go.Proofs.Ytjjadakjkkmjgaa
