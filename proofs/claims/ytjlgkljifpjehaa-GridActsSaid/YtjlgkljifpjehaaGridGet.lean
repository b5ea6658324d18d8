/-
  The grid's methods, one contract each, for each type that a grid is made of.
-/
import Derived.Test.YtjlgkljifpjehaaGridAt
import Derived.WalkSpells
import Derived.WalkLawsBesides
import Derived.Lib.Hide
import Derived.Laws.MakeOwn
import Derived.OwnWalk
namespace Go.Proofs.Ytjlgkljifpjehaa
open Go.RowKit

namespace Gi
abbrev V : Type := Int
abbrev enc (x : V) : List Value := [.int .i64 x]
abbrev zs : List Value := [.int .i64 0]
/-- A grid in the heap: its header's block, its cells' block, and what is there. -/
def Gr (w : World) (gh gl st sz : Nat) (l : List (Option V)) : Prop :=
  At w gh 92 #[.int .i64 st, .int .i64 sz, .slice (some ⟨gl, 0, none⟩) (st * sz) (st * sz), .int .i64 (cnt l)] ∧ At w gl 96 (cells enc zs l) ∧ l.length = st * sz ∧ gh ≠ gl ∧ st ≤ 4 ∧ sz ≤ 1024
/-- What is at a place. -/
def spot (st sz : Nat) (s i : Int) (l : List (Option V)) : Option V := if pin st sz s i then (l[s.toNat * sz + i.toNat]?).join else none
/-- What a place shows. -/
def valOf : Option V → Value
  | none => .int .i64 0
  | some x => .int .i64 x
variable {w w' : World} {gh gl st sz : Nat} {l : List (Option V)}
theorem Gr.below {B : Nat} (h : Gr w gh gl st sz l) (hb : Below B w w') (h1 : gh < B) (h2 : gl < B) : Gr w' gh gl st sz l :=
  ⟨h.1.below hb h1, h.2.1.below hb h2, h.2.2⟩
theorem Gr.alloc (h : Gr w gh gl st sz l) (o : Obj) : Gr (w.alloc o) gh gl st sz l := ⟨h.1.alloc o, h.2.1.alloc o, h.2.2⟩
theorem Gr.drew (h : Gr w gh gl st sz l) : Gr w.drew gh gl st sz l := ⟨h.1.drew, h.2.1.drew, h.2.2⟩
theorem Gr.mod {M : Nat → Prop} (h : Gr w gh gl st sz l) (hm : Mod M w w') (h1 : ¬ M gh) (h2 : ¬ M gl) : Gr w' gh gl st sz l := ⟨h.1.mod hm h1, h.2.1.mod hm h2, h.2.2⟩
theorem Gr.cell (h : Gr w gh gl st sz l) (k j : Nat) (hj : j < 2) : w.cell? ⟨gl, k * 2 + j, none⟩ = (l[k]?).bind fun o => (slot enc zs o)[j]? :=
  (h.2.1.cell _).trans (cells_get (m := 2 - 1) rfl (fun _ => rfl) l k j (by omega))
theorem Gr.at_any (h : Gr w gh gl st sz l) (s i : Int) :
    Calls Try.prog 49 #[.pointer (some ⟨gh, 0, none⟩), .agg #[.int .i64 s, .int .i64 i]] w fun e w' => e = .returned (if pin st sz s i then .pointer (some ⟨gl, (s.toNat * sz + i.toNat) * 2, none⟩) else .pointer none) ∧ Below w.heap.size w w' :=
  Gi.at_any gh gl st sz _ h.2.2.2.2.1 h.2.2.2.2.2 s i w h.1 h.2.1.lt
end Gi

namespace Gs
abbrev V : Type := ByteArray
abbrev enc (x : V) : List Value := [.string x]
abbrev zs : List Value := [.string ⟨#[]⟩]
/-- A grid in the heap: its header's block, its cells' block, and what is there. -/
def Gr (w : World) (gh gl st sz : Nat) (l : List (Option V)) : Prop :=
  At w gh 132 #[.int .i64 st, .int .i64 sz, .slice (some ⟨gl, 0, none⟩) (st * sz) (st * sz), .int .i64 (cnt l)] ∧ At w gl 136 (cells enc zs l) ∧ l.length = st * sz ∧ gh ≠ gl ∧ st ≤ 4 ∧ sz ≤ 1024
/-- What is at a place. -/
def spot (st sz : Nat) (s i : Int) (l : List (Option V)) : Option V := if pin st sz s i then (l[s.toNat * sz + i.toNat]?).join else none
/-- What a place shows. -/
def valOf : Option V → Value
  | none => .string ⟨#[]⟩
  | some x => .string x
variable {w w' : World} {gh gl st sz : Nat} {l : List (Option V)}
theorem Gr.below {B : Nat} (h : Gr w gh gl st sz l) (hb : Below B w w') (h1 : gh < B) (h2 : gl < B) : Gr w' gh gl st sz l :=
  ⟨h.1.below hb h1, h.2.1.below hb h2, h.2.2⟩
theorem Gr.alloc (h : Gr w gh gl st sz l) (o : Obj) : Gr (w.alloc o) gh gl st sz l := ⟨h.1.alloc o, h.2.1.alloc o, h.2.2⟩
theorem Gr.drew (h : Gr w gh gl st sz l) : Gr w.drew gh gl st sz l := ⟨h.1.drew, h.2.1.drew, h.2.2⟩
theorem Gr.mod {M : Nat → Prop} (h : Gr w gh gl st sz l) (hm : Mod M w w') (h1 : ¬ M gh) (h2 : ¬ M gl) : Gr w' gh gl st sz l := ⟨h.1.mod hm h1, h.2.1.mod hm h2, h.2.2⟩
theorem Gr.cell (h : Gr w gh gl st sz l) (k j : Nat) (hj : j < 2) : w.cell? ⟨gl, k * 2 + j, none⟩ = (l[k]?).bind fun o => (slot enc zs o)[j]? :=
  (h.2.1.cell _).trans (cells_get (m := 2 - 1) rfl (fun _ => rfl) l k j (by omega))
theorem Gr.at_any (h : Gr w gh gl st sz l) (s i : Int) :
    Calls Try.prog 58 #[.pointer (some ⟨gh, 0, none⟩), .agg #[.int .i64 s, .int .i64 i]] w fun e w' => e = .returned (if pin st sz s i then .pointer (some ⟨gl, (s.toNat * sz + i.toNat) * 2, none⟩) else .pointer none) ∧ Below w.heap.size w w' :=
  Gs.at_any gh gl st sz _ h.2.2.2.2.1 h.2.2.2.2.2 s i w h.1 h.2.1.lt
end Gs

namespace Gi
set_option maxHeartbeats 1000000 in
theorem get_any (gh gl st sz : Nat) (l : List (Option V)) (s i : Int) (w : World) (h : Gr w gh gl st sz l) :
    Calls Try.prog 14 #[.pointer (some ⟨gh, 0, none⟩), .agg #[.int .i64 s, .int .i64 i]] w fun e w' => e = .returned (.tuple #[valOf (spot st sz s i l), .bool (spot st sz s i l).isSome]) ∧ Below w.heap.size w w' := by
  have H := Lib.hid h
  cases hp : pin st sz s i
  · have hs : spot st sz s i l = none := by unfold spot; rw [hp]; rfl
    rw [hs]
    go_enter Try.func14, Try.ntmps14
    go_wp2_with fail
    refine ((H.out.alloc _).at_any s i).mono ?_
    rintro e w1 ⟨rfl, hw1⟩
    rw [hp]
    go_wp2_with fail
    go_ret2
    exact ⟨rfl, step_below (by repeat first | exact Below.refl _ _ | refine Below.drew ?_ | refine Below.alloc ?_ (by simp <;> omega) _) hw1⟩
  · simp only [pin, decide_eq_true_eq] at hp
    obtain ⟨p1, p2, p3, p4⟩ := hp
    have hk : s.toNat * sz + i.toNat < l.length := by rw [h.2.2.1]; exact place_lt (by omega) (by omega)
    have hp : pin st sz s i = true := by simp only [pin, decide_eq_true_eq]; omega
    have hl1 := h.1.lt
    have hl2 := h.2.1.lt
    clear h p1 p2 p3 p4
    obtain ⟨o, ho⟩ : ∃ o, l[s.toNat * sz + i.toNat]? = some o := ⟨_, List.getElem?_eq_getElem hk⟩
    have hs : spot st sz s i l = o := by unfold spot; rw [hp, ho]; rfl
    cases o <;>
    · rw [hs]
      go_enter Try.func14, Try.ntmps14
      go_wp2_with fail
      refine ((H.out.alloc _).at_any s i).mono ?_
      rintro e w1 ⟨rfl, hw1⟩
      rw [hp, if_pos rfl]
      have H1 := (H.out.alloc _).below hw1 (by simp; omega) (by simp; omega)
      have c0 := H1.cell (s.toNat * sz + i.toNat) 0 (by omega)
      have c1 := H1.cell (s.toNat * sz + i.toNat) 1 (by omega)
      rw [ho] at c0 c1
      simp only [Option.bind_some, slot, List.getElem?_cons_zero, List.getElem?_cons_succ, Nat.add_zero] at c0 c1
      have HW := Lib.hid (step_below (a := w) (by repeat first | exact Below.refl _ _ | refine Below.drew ?_ | refine Below.alloc ?_ (by simp <;> omega) _) hw1)
      clear hw1 H1
      generalize hkk : s.toNat * sz + i.toNat = k at *
      go_wp2_with fail
      go_ret2
      subst hkk
      exact ⟨rfl, HW.out⟩
theorem len_any (gh gl st sz : Nat) (l : List (Option V)) (w : World) (h : Gr w gh gl st sz l) :
    Calls Try.prog 15 #[.pointer (some ⟨gh, 0, none⟩)] w fun e w' => e = .returned (.int .i64 (cnt l)) ∧ w' = w := by
  have c0 := h.1.cell 3
  simp only [List.getElem?_toArray, List.getElem?_cons_zero, List.getElem?_cons_succ] at c0
  clear h
  go_enter Try.func15, Try.ntmps15
  go_wp2_with fail
  go_ret
  exact ⟨rfl, rfl⟩
end Gi

namespace Gs
set_option maxHeartbeats 1000000 in
theorem get_any (gh gl st sz : Nat) (l : List (Option V)) (s i : Int) (w : World) (h : Gr w gh gl st sz l) :
    Calls Try.prog 45 #[.pointer (some ⟨gh, 0, none⟩), .agg #[.int .i64 s, .int .i64 i]] w fun e w' => e = .returned (.tuple #[valOf (spot st sz s i l), .bool (spot st sz s i l).isSome]) ∧ Below w.heap.size w w' := by
  have H := Lib.hid h
  cases hp : pin st sz s i
  · have hs : spot st sz s i l = none := by unfold spot; rw [hp]; rfl
    rw [hs]
    go_enter Try.func45, Try.ntmps45
    go_wp2_with fail
    refine ((H.out.alloc _).at_any s i).mono ?_
    rintro e w1 ⟨rfl, hw1⟩
    rw [hp]
    go_wp2_with fail
    go_ret2
    exact ⟨rfl, step_below (by repeat first | exact Below.refl _ _ | refine Below.drew ?_ | refine Below.alloc ?_ (by simp <;> omega) _) hw1⟩
  · simp only [pin, decide_eq_true_eq] at hp
    obtain ⟨p1, p2, p3, p4⟩ := hp
    have hk : s.toNat * sz + i.toNat < l.length := by rw [h.2.2.1]; exact place_lt (by omega) (by omega)
    have hp : pin st sz s i = true := by simp only [pin, decide_eq_true_eq]; omega
    have hl1 := h.1.lt
    have hl2 := h.2.1.lt
    clear h p1 p2 p3 p4
    obtain ⟨o, ho⟩ : ∃ o, l[s.toNat * sz + i.toNat]? = some o := ⟨_, List.getElem?_eq_getElem hk⟩
    have hs : spot st sz s i l = o := by unfold spot; rw [hp, ho]; rfl
    cases o <;>
    · rw [hs]
      go_enter Try.func45, Try.ntmps45
      go_wp2_with fail
      refine ((H.out.alloc _).at_any s i).mono ?_
      rintro e w1 ⟨rfl, hw1⟩
      rw [hp, if_pos rfl]
      have H1 := (H.out.alloc _).below hw1 (by simp; omega) (by simp; omega)
      have c0 := H1.cell (s.toNat * sz + i.toNat) 0 (by omega)
      have c1 := H1.cell (s.toNat * sz + i.toNat) 1 (by omega)
      rw [ho] at c0 c1
      simp only [Option.bind_some, slot, List.getElem?_cons_zero, List.getElem?_cons_succ, Nat.add_zero] at c0 c1
      have HW := Lib.hid (step_below (a := w) (by repeat first | exact Below.refl _ _ | refine Below.drew ?_ | refine Below.alloc ?_ (by simp <;> omega) _) hw1)
      clear hw1 H1
      generalize hkk : s.toNat * sz + i.toNat = k at *
      go_wp2_with fail
      go_ret2
      subst hkk
      exact ⟨rfl, HW.out⟩
theorem len_any (gh gl st sz : Nat) (l : List (Option V)) (w : World) (h : Gr w gh gl st sz l) :
    Calls Try.prog 47 #[.pointer (some ⟨gh, 0, none⟩)] w fun e w' => e = .returned (.int .i64 (cnt l)) ∧ w' = w := by
  have c0 := h.1.cell 3
  simp only [List.getElem?_toArray, List.getElem?_cons_zero, List.getElem?_cons_succ] at c0
  clear h
  go_enter Try.func47, Try.ntmps47
  go_wp2_with fail
  go_ret
  exact ⟨rfl, rfl⟩
end Gs
end Go.Proofs.Ytjlgkljifpjehaa
