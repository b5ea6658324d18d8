/-
  The grid's methods, one contract each, for each type that a grid is made of.
-/
import Derived.Test.YtjlgkljifpjehaaGrid2In
import Derived.WalkSpells
import Derived.WalkLawsBesides
import Derived.Lib.Hide
import Derived.Laws.MakeOwn
import Derived.OwnWalk
namespace Go.Proofs.Ytjlgkljifpjehaa
open Go.RowKit

namespace G2
set_option maxHeartbeats 1000000 in
theorem get_any (gh gl st sz : Nat) (l : List (Option V)) (s i : Int) (w : World) (h : Gr w gh gl st sz l) :
    Calls Try.prog 26 #[.pointer (some ⟨gh, 0, none⟩), .agg #[.int .i64 s, .int .i64 i]] w fun e w' => e = .returned (.tuple #[valOf (spot st sz s i l), .bool (spot st sz s i l).isSome]) ∧ Below w.heap.size w w' := by
  have H := Lib.hid h
  cases hp : pin st sz s i
  · have hs : spot st sz s i l = none := by unfold spot; rw [hp]; rfl
    rw [hs]
    go_enter Try.func26, Try.ntmps26
    go_wp2_with fail
    refine (((H.out.alloc _).alloc _).at_any s i).mono ?_
    rintro e w1 ⟨rfl, hw1⟩
    rw [hp]
    have hX := Lib.hid ((At.new (w.alloc (.cells #[.int .i64 s, .int .i64 i] 23)) 47 #[.int .i64 0, .int .i64 0]).below hw1 (by simp))
    have e5 := hX.out.lt
    have c5 := hX.out.cell 0
    have c6 := hX.out.cell 1
    have f5 := hX.out.frozen 0
    have f6 := hX.out.frozen 1
    simp only [List.getElem?_toArray, List.getElem?_cons_zero, List.getElem?_cons_succ, World.size_alloc] at c5 c6 e5 f5 f6
    have HW := Lib.hid (step_below (a := w) (by repeat first | exact Below.refl _ _ | refine Below.drew ?_ | refine Below.alloc ?_ (by simp <;> omega) _) hw1)
    clear hw1
    go_wp2_with fail
    have hX2 := hX.out
    rw [World.size_alloc] at hX2
    have hX3 := (hX2.set 0 (.int .i64 0)).set 1 (.int .i64 0)
    have c7 := hX3.cell 0
    have c8 := hX3.cell 1
    simp only [List.setIfInBounds_toArray, List.set_cons_zero, List.set_cons_succ, List.getElem?_toArray, List.getElem?_cons_zero, List.getElem?_cons_succ] at c7 c8
    refine bodyPost_ret (v := .tuple #[.agg #[.int .i64 0, .int .i64 0], .bool false]) ?_ rfl ?_
    · simp [results, Try.f26, go_sem, c7, c8]
    · exact ⟨rfl, (HW.out.setCell (p := ⟨w.heap.size + 1, 0, none⟩) (by simp) _).setCell (p := ⟨w.heap.size + 1, 1, none⟩) (by simp) _⟩
  · simp only [pin, decide_eq_true_eq] at hp
    obtain ⟨p1, p2, p3, p4⟩ := hp
    have hk : s.toNat * sz + i.toNat < l.length := by rw [h.2.2.1]; exact place_lt (by omega) (by omega)
    have hp : pin st sz s i = true := by simp only [pin, decide_eq_true_eq]; omega
    have hl1 := h.1.lt
    have hl2 := h.2.1.lt
    clear h p1 p2 p3 p4
    obtain ⟨o, ho⟩ : ∃ o, l[s.toNat * sz + i.toNat]? = some o := ⟨_, List.getElem?_eq_getElem hk⟩
    have hs : spot st sz s i l = o := by unfold spot; rw [hp, ho]; rfl
    cases o with
    | none =>
      rw [hs]
      go_enter Try.func26, Try.ntmps26
      go_wp2_with fail
      refine (((H.out.alloc _).alloc _).at_any s i).mono ?_
      rintro e w1 ⟨rfl, hw1⟩
      rw [hp, if_pos rfl]
      have H1 := ((H.out.alloc _).alloc _).below hw1 (by simp; omega) (by simp; omega)
      have c0 := H1.cell (s.toNat * sz + i.toNat) 0 (by omega)
      have c1 := H1.cell (s.toNat * sz + i.toNat) 1 (by omega)
      have c2 := H1.cell (s.toNat * sz + i.toNat) 2 (by omega)
      rw [ho] at c0 c1 c2
      simp only [Option.bind_some, slot, List.getElem?_cons_zero, List.getElem?_cons_succ, Nat.add_zero] at c0 c1 c2
      have hX := Lib.hid ((At.new (w.alloc (.cells #[.int .i64 s, .int .i64 i] 23)) 47 #[.int .i64 0, .int .i64 0]).below hw1 (by simp))
      have e5 := hX.out.lt
      have c5 := hX.out.cell 0
      have c6 := hX.out.cell 1
      have f5 := hX.out.frozen 0
      have f6 := hX.out.frozen 1
      simp only [List.getElem?_toArray, List.getElem?_cons_zero, List.getElem?_cons_succ, World.size_alloc] at c5 c6 e5 f5 f6
      have HW := Lib.hid (step_below (a := w) (by repeat first | exact Below.refl _ _ | refine Below.drew ?_ | refine Below.alloc ?_ (by simp <;> omega) _) hw1)
      clear hw1 H1
      generalize hkk : s.toNat * sz + i.toNat = k at *
      go_wp2_with fail
      subst hkk
      have hX2 := hX.out
      rw [World.size_alloc] at hX2
      have hX3 := (hX2.set 0 (.int .i64 0)).set 1 (.int .i64 0)
      have c7 := hX3.cell 0
      have c8 := hX3.cell 1
      simp only [List.setIfInBounds_toArray, List.set_cons_zero, List.set_cons_succ, List.getElem?_toArray, List.getElem?_cons_zero, List.getElem?_cons_succ] at c7 c8
      refine bodyPost_ret (v := .tuple #[.agg #[.int .i64 0, .int .i64 0], .bool false]) ?_ rfl ?_
      · simp [results, Try.f26, go_sem, c7, c8]
      · exact ⟨rfl, (HW.out.setCell (p := ⟨w.heap.size + 1, 0, none⟩) (by simp) _).setCell (p := ⟨w.heap.size + 1, 1, none⟩) (by simp) _⟩
    | some x =>
      rw [hs]
      go_enter Try.func26, Try.ntmps26
      go_wp2_with fail
      refine (((H.out.alloc _).alloc _).at_any s i).mono ?_
      rintro e w1 ⟨rfl, hw1⟩
      rw [hp, if_pos rfl]
      have H1 := ((H.out.alloc _).alloc _).below hw1 (by simp; omega) (by simp; omega)
      have c0 := H1.cell (s.toNat * sz + i.toNat) 0 (by omega)
      have c1 := H1.cell (s.toNat * sz + i.toNat) 1 (by omega)
      have c2 := H1.cell (s.toNat * sz + i.toNat) 2 (by omega)
      rw [ho] at c0 c1 c2
      simp only [Option.bind_some, slot, List.getElem?_cons_zero, List.getElem?_cons_succ, Nat.add_zero] at c0 c1 c2
      have hX := Lib.hid ((At.new (w.alloc (.cells #[.int .i64 s, .int .i64 i] 23)) 47 #[.int .i64 0, .int .i64 0]).below hw1 (by simp))
      have e5 := hX.out.lt
      have c5 := hX.out.cell 0
      have c6 := hX.out.cell 1
      have f5 := hX.out.frozen 0
      have f6 := hX.out.frozen 1
      simp only [List.getElem?_toArray, List.getElem?_cons_zero, List.getElem?_cons_succ, World.size_alloc] at c5 c6 e5 f5 f6
      have HW := Lib.hid (step_below (a := w) (by repeat first | exact Below.refl _ _ | refine Below.drew ?_ | refine Below.alloc ?_ (by simp <;> omega) _) hw1)
      clear hw1 H1
      generalize hkk : s.toNat * sz + i.toNat = k at *
      go_wp2_with fail
      subst hkk
      have hX2 := hX.out
      rw [World.size_alloc] at hX2
      have hX3 := (hX2.set 0 (.int .i64 x.1)).set 1 (.int .i64 x.2)
      have c7 := hX3.cell 0
      have c8 := hX3.cell 1
      simp only [List.setIfInBounds_toArray, List.set_cons_zero, List.set_cons_succ, List.getElem?_toArray, List.getElem?_cons_zero, List.getElem?_cons_succ] at c7 c8
      refine bodyPost_ret (v := .tuple #[.agg #[.int .i64 x.1, .int .i64 x.2], .bool true]) ?_ rfl ?_
      · simp [results, Try.f26, go_sem, c7, c8]
      · exact ⟨rfl, (HW.out.setCell (p := ⟨w.heap.size + 1, 0, none⟩) (by simp) _).setCell (p := ⟨w.heap.size + 1, 1, none⟩) (by simp) _⟩
theorem len_any (gh gl st sz : Nat) (l : List (Option V)) (w : World) (h : Gr w gh gl st sz l) :
    Calls Try.prog 24 #[.pointer (some ⟨gh, 0, none⟩)] w fun e w' => e = .returned (.int .i64 (cnt l)) ∧ w' = w := by
  have c0 := h.1.cell 3
  simp only [List.getElem?_toArray, List.getElem?_cons_zero, List.getElem?_cons_succ] at c0
  clear h
  go_enter Try.func24, Try.ntmps24
  go_wp2_with fail
  go_ret
  exact ⟨rfl, rfl⟩
end G2
end Go.Proofs.Ytjlgkljifpjehaa
