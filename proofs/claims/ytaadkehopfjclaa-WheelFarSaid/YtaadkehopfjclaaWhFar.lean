/-
  The wheel's methods, one contract each, for keys that are ints and keys that are strings.
-/
import Derived.Test.YtaadkehopfjclaaWhAwake
import Derived.WalkSpells
import Derived.WalkLawsBesides
import Derived.Lib.Hide
import Derived.Laws.MakeOwn
import Derived.OwnWalk
import Derived.Shelf.Abstract
namespace Go.Proofs.Ytaadkehopfjclaa
open Go.RowKit Go.MapKept Go.Shelf
/-- Who is set: one at A, one at the last time of all. -/
def PF (A : Nat) : List Ws.D := [⟨⟨#[97]⟩, A, 1⟩, ⟨⟨#[101]⟩, 1099511627776, 2⟩]
theorem PF_set (A : Nat) : ([⟨⟨#[97]⟩, A, 1⟩] : List Ws.D).filter (fun y => decide (y.k ≠ ⟨#[101]⟩)) ++ [⟨⟨#[101]⟩, 1099511627776, 1 + 1⟩] = PF A := by
  have : (decide ((⟨#[97]⟩ : ByteArray) ≠ ⟨#[101]⟩)) = true := by decide
  simp [PF]
theorem PF_stay (A t : Nat) (h1 : t ≠ A) (h2 : t ≤ 1000) : (PF A).filter (fun y => decide (y.t ≠ t)) = PF A ∧ (PF A).filter (fun y => decide (y.t = t)) = [] := by
  constructor
  · refine List.filter_eq_self.2 fun y hy => ?_
    simp only [PF, List.mem_cons, List.not_mem_nil, or_false] at hy
    rcases hy with rfl | rfl <;> simp <;> omega
  · refine List.filter_eq_nil_iff.2 fun y hy => ?_
    simp only [PF, List.mem_cons, List.not_mem_nil, or_false] at hy
    rcases hy with rfl | rfl <;> simp <;> omega
theorem PF_due (A : Nat) (h2 : A ≤ 1000) : (PF A).filter (fun y => decide (y.t ≠ A)) = [⟨⟨#[101]⟩, 1099511627776, 2⟩] ∧ ((PF A).filter (fun y => decide (y.t = A))).map (·.k) = [⟨#[97]⟩] := by
  have e1 : decide ((1099511627776 : Nat) ≠ A) = true := by simp; omega
  have e2 : decide ((1099511627776 : Nat) = A) = false := by simp; omega
  constructor
  · simp [PF]; omega
  · simp [PF]; omega
set_option maxRecDepth 100000 in
set_option maxHeartbeats 4000000 in
theorem far_in (n u o : Nat) (h1 : 1 ≤ n) (h2 : n ≤ 30) (h3 : u ≤ 8) (h4 : 1 ≤ o) (h5 : o ≤ 30) (w : World) :
    Calls Try.prog 5 #[.int .i64 n, .int .i64 u, .int .i64 o] w fun e w' => e = .returned (.bool true) ∧ Below w.heap.size w w' := by
  have d1 : decide ((n : Int) < 1) = false := by simp; omega
  have d2 : decide (30 < (n : Int)) = false := by simp; omega
  have d3 : decide ((u : Int) < 0) = false := by simp
  have d4 : decide (8 < (u : Int)) = false := by simp; omega
  have d5 : decide ((o : Int) < 1) = false := by simp; omega
  have d6 : decide (30 < (o : Int)) = false := by simp; omega
  have hm : u * n ≤ 240 := Nat.mul_le_mul h3 h2
  have hx1 : IntKind.i64.wrap ((u : Int) * (n : Int)) = ((u * n : Nat) : Int) := by
    rw [← Int.natCast_mul, IntKind.wrap_i64]; omega
  go_enter Try.func5, Try.ntmps5
  go_wp2_with fail
  refine (Ws.new_wx n h1 (by omega) w).mono ?_
  rintro e w1 ⟨hb1, p, F1, rfl, hx⟩
  have HB := Lib.hid hb1
  have HX := Lib.hid hx
  clear hb1 hx d1 d2 d3 d4 d5 d6
  generalize hq : u * n = q at *
  go_wp2_with fail
  clear hx1 hq
  obtain ⟨A, hA⟩ : ∃ A : Nat, A = q + o := ⟨_, rfl⟩
  rw [show ((q : Int) + (o : Int)) = (A : Int) by omega]
  have hA1 : 1 ≤ A := by omega
  have hA2 : A ≤ 270 := by omega
  clear hA hm
  refine (Ws.set_wx _ A HX.out (by omega) (by omega) (by omega) (by simp)).mono ?_
  rintro e w2 ⟨rfl, ⟨F2, h2, -⟩, hm2⟩
  replace HB := Lib.hid (HB.out.trans (mod_below hm2 HB.out.size (fun g hg => (HX.out.fb g hg).1)))
  have H2 := Lib.hid (show Ws.Wx w2 _ F2 p n [⟨⟨#[97]⟩, A, 1⟩] 0 1 from h2)
  clear h2 hm2 HX
  go_wp2_with fail
  refine (Ws.set_bad _ 0 H2.out (by omega)).mono ?_
  rintro e w3 ⟨rfl, rfl⟩
  go_wp2_with fail
  refine (Ws.set_bad _ (-1) H2.out (by omega)).mono ?_
  rintro e w4 ⟨rfl, rfl⟩
  go_wp2_with fail
  refine (Ws.set_bad _ 1099511627777 H2.out (by omega)).mono ?_
  rintro e w5 ⟨rfl, rfl⟩
  go_wp2_with fail
  refine (Ws.set_wx ⟨#[101]⟩ 1099511627776 H2.out (by omega) (by omega) (by omega) (by simp)).mono ?_
  rintro e w6 ⟨rfl, ⟨F6, h6, -⟩, hm6⟩
  replace HB := Lib.hid (HB.out.trans (mod_below hm6 HB.out.size (fun g hg => (H2.out.fb g hg).1)))
  rw [PF_set] at h6
  have H6 := Lib.hid h6
  clear h6 hm6 H2
  go_wp2_with fail
  go_loopw [10] (fun s10 wr => ∃ t : Nat, s10 = .int .i64 (t + 1 : Nat) ∧ t < A ∧ (∃ F, Ws.Wx wr w.heap.size F p n (PF A) t 2) ∧ Below w.heap.size w wr) (fun s10 _ => A - (intOf s10).toNat)
  case atStart => exact ⟨0, rfl, hA1, ⟨F6, H6.out⟩, HB.out⟩
  case round =>
    clear H6 HB
    obtain ⟨t, rfl, ht, ⟨F, hx⟩, hb⟩ := hrel
    have HX := Lib.hid hx
    have HB := Lib.hid hb
    clear hx hb
    by_cases hlt : t + 1 < A
    · have hltz : ((t + 1 : Nat) : Int) < (A : Int) := by omega
      go_wp2_with fail
      refine (Ws.tick_wx HX.out (by omega) (by simp [PF])).mono ?_
      rintro e w7 ⟨⟨F', out, rfl, h7, -, hr⟩, hm⟩
      rw [(PF_stay A (t + 1) (by omega) (by omega)).1] at h7
      rw [(PF_stay A (t + 1) (by omega) (by omega)).2] at hr
      obtain ⟨al, cl, rfl⟩ := hr.1.form
      have HB7 := Lib.hid (HB.out.trans (mod_below hm HB.out.size (fun g hg => (HX.out.fb g hg).1)))
      have H7 := Lib.hid h7
      clear h7 hr hm
      go_wp2_with fail
      go_roundw
      case rel => exact ⟨t + 1, by simp, by omega, ⟨F', H7.out⟩, HB7.out⟩
      case measure => simp [intOf] <;> omega
    · have hltz : ¬ ((t + 1 : Nat) : Int) < (A : Int) := by omega
      have htA : A = t + 1 := by omega
      subst htA
      clear hlt ht
      go_wp2_with fail
      refine (Ws.at_wx ⟨#[97]⟩ HX.out ⟨⟨#[97]⟩, t + 1, 1⟩ (by simp [PF]) rfl).mono ?_
      rintro e w7 ⟨rfl, hb7⟩
      replace HB := Lib.hid (step_below HB.out hb7)
      replace HX := Lib.hid (HX.out.below hb7)
      clear hb7
      go_wp2_with fail
      refine (Ws.tick_wx HX.out (by omega) (by simp [PF])).mono ?_
      rintro e w8 ⟨⟨F8, out, rfl, h8, -, hr⟩, hm⟩
      rw [(PF_due (t + 1) (by omega)).1] at h8
      rw [(PF_due (t + 1) (by omega)).2] at hr
      replace HB := Lib.hid (HB.out.trans (mod_below hm HB.out.size (fun g hg => (HX.out.fb g hg).1)))
      have H8 := Lib.hid h8
      have HR := Lib.hid hr
      clear h8 hr hm HX
      obtain ⟨al, cl, rfl⟩ := HR.out.1.form
      go_wp2_with fail
      refine (Ws.at_no ⟨#[97]⟩ H8.out (by simp)).mono ?_
      rintro e w9 ⟨rfl, hb9⟩
      replace HB := Lib.hid (step_below HB.out hb9)
      replace H8 := Lib.hid (H8.out.below hb9)
      replace HR := Lib.hid (HR.out.below hb9)
      clear hb9
      obtain ⟨b, o', rfl, hbl, hc⟩ := (HR.out.1.rd Ws.keyL_len).1.2 (by simp)
      have c0 := hc 0 ⟨#[97]⟩ rfl 0 (by omega)
      simp only [Ws.keyL, List.getElem?_cons_zero, Nat.zero_mul, Nat.add_zero] at c0
      clear hc
      go_wp2_with fail
      refine (Ws.len_wx H8.out).mono ?_
      rintro e w10 ⟨rfl, rfl⟩
      go_wp2_with fail
      refine (Ws.set_bad _ _ H8.out (by omega)).mono ?_
      rintro e w11 ⟨rfl, rfl⟩
      go_wp2_with fail
      refine (Ws.drop_wx ⟨#[101]⟩ H8.out (by simp)).mono ?_
      rintro e w12 ⟨rfl, -, hm⟩
      rw [show ([⟨⟨#[101]⟩, 1099511627776, 2⟩] : List Ws.D).any (fun y => decide (y.k = ⟨#[101]⟩)) = true by simp]
      replace HB := Lib.hid (HB.out.trans (mod_below hm HB.out.size (fun g hg => (H8.out.fb g hg).1)))
      clear hm
      go_wp2_with fail
      refine (awake_any _).mono ?_
      rintro e w13 ⟨rfl, hb⟩
      have HB3 := Lib.hid (step_below HB.out hb)
      clear hb
      go_wp2_with fail
      go_ret
      exact ⟨rfl, HB3.out⟩
set_option maxHeartbeats 1000000 in
theorem far_law (a0 a1 a2 : Int) (w : World) (_ : (Lit.int .i64 a0).wf = true) (_ : (Lit.int .i64 a1).wf = true) (_ : (Lit.int .i64 a2).wf = true) :
    Calls Try.prog 5 #[.int .i64 a0, .int .i64 a1, .int .i64 a2] w fun e w' => e = .returned (.bool true) ∧ Below w.heap.size w w' := by
  by_cases hg : 1 ≤ a0 ∧ a0 ≤ 30 ∧ 0 ≤ a1 ∧ a1 ≤ 8 ∧ 1 ≤ a2 ∧ a2 ≤ 30
  · obtain ⟨g1, g2, g3, g4, g5, g6⟩ := hg
    obtain ⟨n, rfl⟩ := Int.eq_ofNat_of_zero_le (show 0 ≤ a0 by omega)
    obtain ⟨u, rfl⟩ := Int.eq_ofNat_of_zero_le g3
    obtain ⟨o, rfl⟩ := Int.eq_ofNat_of_zero_le (show 0 ≤ a2 by omega)
    exact far_in n u o (by omega) (by omega) (by omega) (by omega) (by omega) w
  · have hcase : a0 < 1 ∨ (decide (a0 < 1) = false ∧ 30 < a0) ∨ (decide (a0 < 1) = false ∧ decide (30 < a0) = false ∧ a1 < 0) ∨ (decide (a0 < 1) = false ∧ decide (30 < a0) = false ∧ decide (a1 < 0) = false ∧ 8 < a1) ∨ (decide (a0 < 1) = false ∧ decide (30 < a0) = false ∧ decide (a1 < 0) = false ∧ decide (8 < a1) = false ∧ a2 < 1) ∨ (decide (a0 < 1) = false ∧ decide (30 < a0) = false ∧ decide (a1 < 0) = false ∧ decide (8 < a1) = false ∧ decide (a2 < 1) = false ∧ 30 < a2) := by
      simp only [decide_eq_false_iff_not]; omega
    clear hg
    rcases hcase with q1 | ⟨q1, q2⟩ | ⟨q1, q2, q3⟩ | ⟨q1, q2, q3, q4⟩ | ⟨q1, q2, q3, q4, q5⟩ | ⟨q1, q2, q3, q4, q5, q6⟩ <;>
    · go_enter Try.func5, Try.ntmps5
      go_wp2_with fail
      refine (awake_any _).mono ?_
      rintro e w3 ⟨rfl, hb⟩
      go_wp2_with fail
      go_ret
      exact ⟨rfl, hb⟩
end Go.Proofs.Ytaadkehopfjclaa
