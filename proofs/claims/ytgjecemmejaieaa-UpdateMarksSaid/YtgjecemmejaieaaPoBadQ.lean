/-
  What may not be: Fill and New of such members; Dip at any number.
-/
import Derived.Test.YtgjecemmejaieaaBav
namespace Go.Proofs.Ytgjecemmejaieaa
open Go.RowKit Go.Shelf
theorem exec_bldD5 (parts : Array (Nat × Operand)) (dst : Option Tmp) (ty : TypeId) (pos : String) (after : Array Edge) (g : Option (Nat × Bool)) (f : Operand → Value) (w : World) :
    (execOp f ⟨dst, .build 88 parts, ty, pos, after, g⟩).run Try.prog w = bldX Try.prog 88 (parts.map fun (i, x) => (i, f x)) w := rfl
attribute [local go_sem ↓] exec_bldD5
set_option maxHeartbeats 2000000 in
theorem fill_bad (am : Option Addr) (nm cm n : Nat) (M : List Mb) (w : World) (hM : Rd 19 Mb.l w am nm M) (hok : mOk M = false) (h1 : 1 ≤ n) (h2 : n ≤ 64) :
    Calls Try.prog 43 #[.slice none 0 0, .slice am nm cm, .int .i64 n] w fun e w' => e = .returned (.tuple #[.slice none 0 0, .int .i64 1]) ∧ Below w.heap.size w w' := by
  have HM := Lib.hid hM
  have HCK := Lib.hid (mChk_no hok)
  have d1 : decide ((n : Int) < 1) = false := by simp; omega
  have d2 : decide (64 < (n : Int)) = false := by simp; omega
  clear hM hok
  go_enter Try.func43, Try.ntmps43
  go_upto_region 1 with fail
  obtain ⟨bo, hbo⟩ : ∃ bo, bo = w.heap.size := ⟨_, rfl⟩
  rw [← hbo]
  have HAO := Lib.hid (at_new w 59 #[.slice none 0 0] bo hbo)
  replace HM := Lib.hid (HM.out.alloc (.cells #[.slice none 0 0] 59))
  have HB := Lib.hid ((Below.refl w.heap.size w).alloc (Nat.le_refl _) (.cells #[.slice none 0 0] 59))
  clear hbo
  generalize w.alloc (.cells #[.slice none 0 0] 59) = W at *
  go_wp2_with fail
  refine (mcheck_any am nm cm M _ HM.out).mono ?_
  rintro e w1 ⟨rfl, hb⟩
  rw [HCK.out]
  have HB1 := Lib.hid (step_below HB.out hb)
  clear hb
  go_wp2_with fail
  go_ret2
  exact ⟨rfl, HB1.out⟩
theorem pnew_bad (c : Cf) (am : Option Addr) (nm cm n : Nat) (M : List Mb) (w : World) (hM : Rd 19 Mb.l w am nm M) (hc : cok c = true) (hok : mOk M = false) (hn : c.slots = n) (h1 : 1 ≤ n) (h2 : n ≤ 64) :
    Calls Try.prog 24 #[.agg (cc c), .slice am nm cm] w fun e w' => e = .returned (.tuple #[.pointer none, .int .i64 1]) ∧ Below w.heap.size w w' := by
  have H := Lib.hid (chk_yes c hc)
  have HM := Lib.hid hM
  have HOK := Lib.hid hok
  clear hc hM hok
  go_enter Try.func24, Try.ntmps24
  go_upto_region 1 with fail
  obtain ⟨bc, hbc⟩ : ∃ bc, bc = w.heap.size := ⟨_, rfl⟩
  rw [← hbc]
  have HC := Lib.hid (at_new w 33 (cc c) bc hbc)
  have HB := Lib.hid ((Below.refl w.heap.size w).alloc (Nat.le_refl _) (.cells (cc c) 33))
  replace HM := Lib.hid (HM.out.alloc (.cells (cc c) 33))
  clear hbc
  generalize w.alloc (.cells (cc c) 33) = W at *
  have r1 := HC.out.row
  have o1 := HC.out.open
  have l1 := HC.out.lt
  go_wp2_with fail
  refine (check_any c _).mono ?_
  rintro e w1 ⟨rfl, hb⟩
  rw [H.out]
  replace HB := Lib.hid (step_below HB.out hb)
  replace HM := Lib.hid (HM.out.below hb)
  replace HC := Lib.hid (HC.out.below hb HC.out.lt)
  clear r1 o1 l1 hb
  have c5 := HC.out.cell 5
  rw [cl_head c 5 (by omega)] at c5
  simp only [Cf.head, List.getElem?_cons_succ, List.getElem?_cons_zero, hn] at c5
  have l1 := HC.out.lt
  go_wp2_with fail
  refine (fill_bad am nm cm n M _ HM.out HOK.out h1 h2).mono ?_
  rintro e w2 ⟨rfl, hb⟩
  replace HB := Lib.hid (step_below HB.out hb)
  clear hb
  go_wp2_with fail
  go_ret2
  exact ⟨rfl, HB.out⟩
variable {w w' : World} {B p t : Nat} {c : Cf} {vs : List V} {now : Nat} {lv sv : Value} {L : List Mb} {S : List Dp}
theorem refs_no (h : Po w B p t c vs now lv L sv S) (v : Int) (hv : liveB vs now v = false) : Calls Try.prog 22 #[.pointer (some ⟨p, 0, none⟩), .int .i64 v] w fun e w' => e = .returned (.int .i64 0) ∧ w' = w := by
  have H := Lib.hid h
  have HV := Lib.hid hv
  clear h hv
  go_enter Try.func22, Try.ntmps22
  go_wp2_with fail
  refine (live_any H.out v).mono ?_
  rintro e w1 ⟨rfl, rfl⟩
  rw [HV.out]
  go_wp2_with fail
  go_ret
  exact ⟨rfl, rfl⟩
end Go.Proofs.Ytgjecemmejaieaa
