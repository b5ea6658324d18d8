/-
  The grid's methods, one contract each, for each type that a grid is made of.
-/
import Derived.Test.YtjlgkljifpjehaaGridGet
import Derived.WalkSpells
import Derived.WalkLawsBesides
import Derived.Lib.Hide
import Derived.Laws.MakeOwn
import Derived.OwnWalk
namespace Go.Proofs.Ytjlgkljifpjehaa
open Go.RowKit

namespace Gi
/-- What is there behind a place is set anew. -/
def put (st sz : Nat) (s i : Int) (l : List (Option V)) (o : Option V) : List (Option V) := if pin st sz s i then l.set (s.toNat * sz + i.toNat) o else l
theorem put_length (st sz : Nat) (s i : Int) (l : List (Option V)) (o : Option V) : (put st sz s i l o).length = l.length := by unfold put; split <;> simp
theorem Gr.put2 {w : World} {gh gl st sz : Nat} {l : List (Option V)} (h : Gr w gh gl st sz l) (k : Nat) (v x : V) (hk : l[k]? = some (some v)) :
    Gr ((w.setCell ⟨gl, k * 2, none⟩ (.bool true)).setCell ⟨gl, k * 2 + 1, none⟩ (.int .i64 x)) gh gl st sz (l.set k (some x)) := by
  have hkl : k < l.length := (List.getElem?_eq_some_iff.1 hk).1
  have hc : cnt (l.set k (some x)) = cnt l := by rw [cnt_set_some l k x hkl, hk]; rfl
  refine ⟨?_, ?_, by rw [List.length_set]; exact h.2.2.1, h.2.2.2⟩
  · rw [hc]; exact (h.1.far h.2.2.2.1 _).far h.2.2.2.1 _
  · rw [← cells_set2 rfl (fun _ => rfl) l k hkl (some x) (.bool true) (.int .i64 x) rfl]
    exact (h.2.1.set _ _).set _ _
theorem Gr.add2 {w : World} {gh gl st sz : Nat} {l : List (Option V)} (h : Gr w gh gl st sz l) (k : Nat) (x : V) (hk : l[k]? = some none) :
    Gr (((w.setCell ⟨gh, 3, none⟩ (.int .i64 ((cnt l : Int) + 1))).setCell ⟨gl, k * 2, none⟩ (.bool true)).setCell ⟨gl, k * 2 + 1, none⟩ (.int .i64 x)) gh gl st sz (l.set k (some x)) := by
  have hkl : k < l.length := (List.getElem?_eq_some_iff.1 hk).1
  have hc : cnt (l.set k (some x)) = cnt l + 1 := by rw [cnt_set_some l k x hkl, hk]; rfl
  refine ⟨?_, ?_, by rw [List.length_set]; exact h.2.2.1, h.2.2.2⟩
  · rw [hc, Int.natCast_add]; exact ((h.1.set 3 _).far h.2.2.2.1 _).far h.2.2.2.1 _
  · rw [← cells_set2 rfl (fun _ => rfl) l k hkl (some x) (.bool true) (.int .i64 x) rfl]
    exact ((h.2.1.far (Ne.symm h.2.2.2.1) _).set _ _).set _ _
theorem Gr.free2 {w : World} {gh gl st sz : Nat} {l : List (Option V)} (h : Gr w gh gl st sz l) (k : Nat) (x : V) (hk : l[k]? = some (some x)) :
    Gr (((w.setCell ⟨gl, k * 2, none⟩ (.bool false)).setCell ⟨gl, k * 2 + 1, none⟩ (.int .i64 0)).setCell ⟨gh, 3, none⟩ (.int .i64 ((cnt l : Int) - 1))) gh gl st sz (l.set k none) := by
  have hkl : k < l.length := (List.getElem?_eq_some_iff.1 hk).1
  have hc : ((cnt l : Int) - 1) = (cnt (l.set k none) : Int) := by have := cnt_set_none l k (by rw [hk]; rfl); omega
  refine ⟨?_, ?_, by rw [List.length_set]; exact h.2.2.1, h.2.2.2⟩
  · rw [hc]; exact ((h.1.far h.2.2.2.1 _).far h.2.2.2.1 _).set 3 _
  · rw [← cells_set2 rfl (fun _ => rfl) l k hkl none (.bool false) (.int .i64 0) rfl]
    exact ((h.2.1.set _ _).set _ _).far (Ne.symm h.2.2.2.1) _
set_option maxHeartbeats 1000000 in
theorem set_any (gh gl st sz : Nat) (l : List (Option V)) (s i : Int) (x : V) (w : World) (h : Gr w gh gl st sz l) :
    Calls Try.prog 13 #[.pointer (some ⟨gh, 0, none⟩), .agg #[.int .i64 s, .int .i64 i], .int .i64 x] w fun e w' => e = .returned (.bool (pin st sz s i)) ∧ Mod (fun b => b = gh ∨ b = gl) w w' ∧ Gr w' gh gl st sz (put st sz s i l (some x)) := by
  have H := Lib.hid h
  have hl1 := h.1.lt
  have hl2 := h.2.1.lt
  cases hp : pin st sz s i
  · have hs : put st sz s i l (some x) = l := by unfold put; rw [hp]; rfl
    rw [hs]
    go_enter Try.func13, Try.ntmps13
    go_wp2_with fail
    refine ((H.out.alloc _).at_any s i).mono ?_
    rintro e w1 ⟨rfl, hw1⟩
    rw [hp]
    go_wp2_with fail
    go_ret
    have hb := step_below (a := w) (by repeat first | exact Below.refl _ _ | refine Below.drew ?_ | refine Below.alloc ?_ (by simp <;> omega) _) hw1
    exact ⟨rfl, Mod.of_below hb, H.out.below hb hl1 hl2⟩
  · have hs : put st sz s i l (some x) = l.set (s.toNat * sz + i.toNat) (some x) := by unfold put; rw [hp]; rfl
    rw [hs]
    simp only [pin, decide_eq_true_eq] at hp
    obtain ⟨p1, p2, p3, p4⟩ := hp
    have hk : s.toNat * sz + i.toNat < l.length := by rw [h.2.2.1]; exact place_lt (by omega) (by omega)
    have hp : pin st sz s i = true := by simp only [pin, decide_eq_true_eq]; omega
    have hn : cnt l ≤ 4096 := Nat.le_trans (cnt_le l) (by rw [h.2.2.1]; exact place_le h.2.2.2.2.1 h.2.2.2.2.2)
    have hne : gh ≠ gl := h.2.2.2.1
    clear h p1 p2 p3 p4
    have hx1 : IntKind.i64.wrap ((cnt l : Int) + 1) = ((cnt l + 1 : Nat) : Int) := by
      rw [IntKind.wrap_i64]; omega
    obtain ⟨o, ho⟩ : ∃ o, l[s.toNat * sz + i.toNat]? = some o := ⟨_, List.getElem?_eq_getElem hk⟩
    cases o with
    | none => 
      go_enter Try.func13, Try.ntmps13
      go_wp2_with fail
      refine ((H.out.alloc _).at_any s i).mono ?_
      rintro e w1 ⟨rfl, hw1⟩
      rw [hp, if_pos rfl]
      have H1 := Lib.hid ((H.out.alloc _).below hw1 (by simp; omega) (by simp; omega))
      have c0 := H1.out.cell (s.toNat * sz + i.toNat) 0 (by omega)
      have c1 := H1.out.cell (s.toNat * sz + i.toNat) 1 (by omega)
      have c2 := H1.out.1.cell 3
      have f0 := H1.out.2.1.frozen ((s.toNat * sz + i.toNat) * 2)
      have f1 := H1.out.2.1.frozen ((s.toNat * sz + i.toNat) * 2 + 1)
      have f2 := H1.out.1.frozen 3
      have e1 := H1.out.1.lt
      have e2 := H1.out.2.1.lt
      rw [ho] at c0 c1
      simp only [Option.bind_some, slot, List.getElem?_cons_zero, List.getElem?_cons_succ, Nat.add_zero, List.getElem?_toArray] at c0 c1 c2
      have HW := Lib.hid (step_below (a := w) (by repeat first | exact Below.refl _ _ | refine Below.drew ?_ | refine Below.alloc ?_ (by simp <;> omega) _) hw1)
      clear hw1
      generalize hkk : s.toNat * sz + i.toNat = k at *
      generalize hnn : cnt l = n at *
      go_wp2_with fail
      go_ret
      have HG := H1.out.add2 k x ho
      rw [hnn] at HG
      subst hkk
      exact ⟨rfl, (((Mod.of_below HW.out).setCell _ _ (fun _ => Or.inl rfl)).setCell _ _ (fun _ => Or.inr rfl)).setCell _ _ (fun _ => Or.inr rfl), HG⟩
    | some v => 
      go_enter Try.func13, Try.ntmps13
      go_wp2_with fail
      refine ((H.out.alloc _).at_any s i).mono ?_
      rintro e w1 ⟨rfl, hw1⟩
      rw [hp, if_pos rfl]
      have H1 := Lib.hid ((H.out.alloc _).below hw1 (by simp; omega) (by simp; omega))
      have c0 := H1.out.cell (s.toNat * sz + i.toNat) 0 (by omega)
      have c1 := H1.out.cell (s.toNat * sz + i.toNat) 1 (by omega)
      have c2 := H1.out.1.cell 3
      have f0 := H1.out.2.1.frozen ((s.toNat * sz + i.toNat) * 2)
      have f1 := H1.out.2.1.frozen ((s.toNat * sz + i.toNat) * 2 + 1)
      have f2 := H1.out.1.frozen 3
      have e1 := H1.out.1.lt
      have e2 := H1.out.2.1.lt
      rw [ho] at c0 c1
      simp only [Option.bind_some, slot, List.getElem?_cons_zero, List.getElem?_cons_succ, Nat.add_zero, List.getElem?_toArray] at c0 c1 c2
      have HW := Lib.hid (step_below (a := w) (by repeat first | exact Below.refl _ _ | refine Below.drew ?_ | refine Below.alloc ?_ (by simp <;> omega) _) hw1)
      clear hw1
      generalize hkk : s.toNat * sz + i.toNat = k at *
      generalize hnn : cnt l = n at *
      go_wp2_with fail
      go_ret
      have HG := H1.out.put2 k v x ho
      subst hkk
      exact ⟨rfl, ((Mod.of_below HW.out).setCell _ _ (fun _ => Or.inr rfl)).setCell _ _ (fun _ => Or.inr rfl), HG⟩
end Gi

namespace Gs
/-- What is there behind a place is set anew. -/
def put (st sz : Nat) (s i : Int) (l : List (Option V)) (o : Option V) : List (Option V) := if pin st sz s i then l.set (s.toNat * sz + i.toNat) o else l
theorem put_length (st sz : Nat) (s i : Int) (l : List (Option V)) (o : Option V) : (put st sz s i l o).length = l.length := by unfold put; split <;> simp
theorem Gr.put2 {w : World} {gh gl st sz : Nat} {l : List (Option V)} (h : Gr w gh gl st sz l) (k : Nat) (v x : V) (hk : l[k]? = some (some v)) :
    Gr ((w.setCell ⟨gl, k * 2, none⟩ (.bool true)).setCell ⟨gl, k * 2 + 1, none⟩ (.string x)) gh gl st sz (l.set k (some x)) := by
  have hkl : k < l.length := (List.getElem?_eq_some_iff.1 hk).1
  have hc : cnt (l.set k (some x)) = cnt l := by rw [cnt_set_some l k x hkl, hk]; rfl
  refine ⟨?_, ?_, by rw [List.length_set]; exact h.2.2.1, h.2.2.2⟩
  · rw [hc]; exact (h.1.far h.2.2.2.1 _).far h.2.2.2.1 _
  · rw [← cells_set2 rfl (fun _ => rfl) l k hkl (some x) (.bool true) (.string x) rfl]
    exact (h.2.1.set _ _).set _ _
theorem Gr.add2 {w : World} {gh gl st sz : Nat} {l : List (Option V)} (h : Gr w gh gl st sz l) (k : Nat) (x : V) (hk : l[k]? = some none) :
    Gr (((w.setCell ⟨gh, 3, none⟩ (.int .i64 ((cnt l : Int) + 1))).setCell ⟨gl, k * 2, none⟩ (.bool true)).setCell ⟨gl, k * 2 + 1, none⟩ (.string x)) gh gl st sz (l.set k (some x)) := by
  have hkl : k < l.length := (List.getElem?_eq_some_iff.1 hk).1
  have hc : cnt (l.set k (some x)) = cnt l + 1 := by rw [cnt_set_some l k x hkl, hk]; rfl
  refine ⟨?_, ?_, by rw [List.length_set]; exact h.2.2.1, h.2.2.2⟩
  · rw [hc, Int.natCast_add]; exact ((h.1.set 3 _).far h.2.2.2.1 _).far h.2.2.2.1 _
  · rw [← cells_set2 rfl (fun _ => rfl) l k hkl (some x) (.bool true) (.string x) rfl]
    exact ((h.2.1.far (Ne.symm h.2.2.2.1) _).set _ _).set _ _
theorem Gr.free2 {w : World} {gh gl st sz : Nat} {l : List (Option V)} (h : Gr w gh gl st sz l) (k : Nat) (x : V) (hk : l[k]? = some (some x)) :
    Gr (((w.setCell ⟨gl, k * 2, none⟩ (.bool false)).setCell ⟨gl, k * 2 + 1, none⟩ (.string ⟨#[]⟩)).setCell ⟨gh, 3, none⟩ (.int .i64 ((cnt l : Int) - 1))) gh gl st sz (l.set k none) := by
  have hkl : k < l.length := (List.getElem?_eq_some_iff.1 hk).1
  have hc : ((cnt l : Int) - 1) = (cnt (l.set k none) : Int) := by have := cnt_set_none l k (by rw [hk]; rfl); omega
  refine ⟨?_, ?_, by rw [List.length_set]; exact h.2.2.1, h.2.2.2⟩
  · rw [hc]; exact ((h.1.far h.2.2.2.1 _).far h.2.2.2.1 _).set 3 _
  · rw [← cells_set2 rfl (fun _ => rfl) l k hkl none (.bool false) (.string ⟨#[]⟩) rfl]
    exact ((h.2.1.set _ _).set _ _).far (Ne.symm h.2.2.2.1) _
set_option maxHeartbeats 1000000 in
theorem set_any (gh gl st sz : Nat) (l : List (Option V)) (s i : Int) (x : V) (w : World) (h : Gr w gh gl st sz l) :
    Calls Try.prog 44 #[.pointer (some ⟨gh, 0, none⟩), .agg #[.int .i64 s, .int .i64 i], .string x] w fun e w' => e = .returned (.bool (pin st sz s i)) ∧ Mod (fun b => b = gh ∨ b = gl) w w' ∧ Gr w' gh gl st sz (put st sz s i l (some x)) := by
  have H := Lib.hid h
  have hl1 := h.1.lt
  have hl2 := h.2.1.lt
  cases hp : pin st sz s i
  · have hs : put st sz s i l (some x) = l := by unfold put; rw [hp]; rfl
    rw [hs]
    go_enter Try.func44, Try.ntmps44
    go_wp2_with fail
    refine ((H.out.alloc _).at_any s i).mono ?_
    rintro e w1 ⟨rfl, hw1⟩
    rw [hp]
    go_wp2_with fail
    go_ret
    have hb := step_below (a := w) (by repeat first | exact Below.refl _ _ | refine Below.drew ?_ | refine Below.alloc ?_ (by simp <;> omega) _) hw1
    exact ⟨rfl, Mod.of_below hb, H.out.below hb hl1 hl2⟩
  · have hs : put st sz s i l (some x) = l.set (s.toNat * sz + i.toNat) (some x) := by unfold put; rw [hp]; rfl
    rw [hs]
    simp only [pin, decide_eq_true_eq] at hp
    obtain ⟨p1, p2, p3, p4⟩ := hp
    have hk : s.toNat * sz + i.toNat < l.length := by rw [h.2.2.1]; exact place_lt (by omega) (by omega)
    have hp : pin st sz s i = true := by simp only [pin, decide_eq_true_eq]; omega
    have hn : cnt l ≤ 4096 := Nat.le_trans (cnt_le l) (by rw [h.2.2.1]; exact place_le h.2.2.2.2.1 h.2.2.2.2.2)
    have hne : gh ≠ gl := h.2.2.2.1
    clear h p1 p2 p3 p4
    have hx1 : IntKind.i64.wrap ((cnt l : Int) + 1) = ((cnt l + 1 : Nat) : Int) := by
      rw [IntKind.wrap_i64]; omega
    obtain ⟨o, ho⟩ : ∃ o, l[s.toNat * sz + i.toNat]? = some o := ⟨_, List.getElem?_eq_getElem hk⟩
    cases o with
    | none => 
      go_enter Try.func44, Try.ntmps44
      go_wp2_with fail
      refine ((H.out.alloc _).at_any s i).mono ?_
      rintro e w1 ⟨rfl, hw1⟩
      rw [hp, if_pos rfl]
      have H1 := Lib.hid ((H.out.alloc _).below hw1 (by simp; omega) (by simp; omega))
      have c0 := H1.out.cell (s.toNat * sz + i.toNat) 0 (by omega)
      have c1 := H1.out.cell (s.toNat * sz + i.toNat) 1 (by omega)
      have c2 := H1.out.1.cell 3
      have f0 := H1.out.2.1.frozen ((s.toNat * sz + i.toNat) * 2)
      have f1 := H1.out.2.1.frozen ((s.toNat * sz + i.toNat) * 2 + 1)
      have f2 := H1.out.1.frozen 3
      have e1 := H1.out.1.lt
      have e2 := H1.out.2.1.lt
      rw [ho] at c0 c1
      simp only [Option.bind_some, slot, List.getElem?_cons_zero, List.getElem?_cons_succ, Nat.add_zero, List.getElem?_toArray] at c0 c1 c2
      have HW := Lib.hid (step_below (a := w) (by repeat first | exact Below.refl _ _ | refine Below.drew ?_ | refine Below.alloc ?_ (by simp <;> omega) _) hw1)
      clear hw1
      generalize hkk : s.toNat * sz + i.toNat = k at *
      generalize hnn : cnt l = n at *
      go_wp2_with fail
      go_ret
      have HG := H1.out.add2 k x ho
      rw [hnn] at HG
      subst hkk
      exact ⟨rfl, (((Mod.of_below HW.out).setCell _ _ (fun _ => Or.inl rfl)).setCell _ _ (fun _ => Or.inr rfl)).setCell _ _ (fun _ => Or.inr rfl), HG⟩
    | some v => 
      go_enter Try.func44, Try.ntmps44
      go_wp2_with fail
      refine ((H.out.alloc _).at_any s i).mono ?_
      rintro e w1 ⟨rfl, hw1⟩
      rw [hp, if_pos rfl]
      have H1 := Lib.hid ((H.out.alloc _).below hw1 (by simp; omega) (by simp; omega))
      have c0 := H1.out.cell (s.toNat * sz + i.toNat) 0 (by omega)
      have c1 := H1.out.cell (s.toNat * sz + i.toNat) 1 (by omega)
      have c2 := H1.out.1.cell 3
      have f0 := H1.out.2.1.frozen ((s.toNat * sz + i.toNat) * 2)
      have f1 := H1.out.2.1.frozen ((s.toNat * sz + i.toNat) * 2 + 1)
      have f2 := H1.out.1.frozen 3
      have e1 := H1.out.1.lt
      have e2 := H1.out.2.1.lt
      rw [ho] at c0 c1
      simp only [Option.bind_some, slot, List.getElem?_cons_zero, List.getElem?_cons_succ, Nat.add_zero, List.getElem?_toArray] at c0 c1 c2
      have HW := Lib.hid (step_below (a := w) (by repeat first | exact Below.refl _ _ | refine Below.drew ?_ | refine Below.alloc ?_ (by simp <;> omega) _) hw1)
      clear hw1
      generalize hkk : s.toNat * sz + i.toNat = k at *
      generalize hnn : cnt l = n at *
      go_wp2_with fail
      go_ret
      have HG := H1.out.put2 k v x ho
      subst hkk
      exact ⟨rfl, ((Mod.of_below HW.out).setCell _ _ (fun _ => Or.inr rfl)).setCell _ _ (fun _ => Or.inr rfl), HG⟩
end Gs

namespace Gi
set_option maxHeartbeats 1000000 in
theorem free_any (gh gl st sz : Nat) (l : List (Option V)) (s i : Int) (w : World) (h : Gr w gh gl st sz l) :
    Calls Try.prog 16 #[.pointer (some ⟨gh, 0, none⟩), .agg #[.int .i64 s, .int .i64 i]] w fun e w' => e = .returned (.bool (spot st sz s i l).isSome) ∧ Mod (fun b => b = gh ∨ b = gl) w w' ∧ Gr w' gh gl st sz (put st sz s i l none) := by
  have H := Lib.hid h
  have hl1 := h.1.lt
  have hl2 := h.2.1.lt
  cases hp : pin st sz s i
  · have hs : put st sz s i l none = l := by unfold put; rw [hp]; rfl
    have hs' : spot st sz s i l = none := by unfold spot; rw [hp]; rfl
    rw [hs, hs']
    go_enter Try.func16, Try.ntmps16
    go_wp2_with fail
    refine ((H.out.alloc _).at_any s i).mono ?_
    rintro e w1 ⟨rfl, hw1⟩
    rw [hp]
    go_wp2_with fail
    go_ret
    have hb := step_below (a := w) (by repeat first | exact Below.refl _ _ | refine Below.drew ?_ | refine Below.alloc ?_ (by simp <;> omega) _) hw1
    exact ⟨rfl, Mod.of_below hb, H.out.below hb hl1 hl2⟩
  · have hs : put st sz s i l none = l.set (s.toNat * sz + i.toNat) none := by unfold put; rw [hp]; rfl
    rw [hs]
    simp only [pin, decide_eq_true_eq] at hp
    obtain ⟨p1, p2, p3, p4⟩ := hp
    have hk : s.toNat * sz + i.toNat < l.length := by rw [h.2.2.1]; exact place_lt (by omega) (by omega)
    have hp : pin st sz s i = true := by simp only [pin, decide_eq_true_eq]; omega
    have hn : cnt l ≤ 4096 := Nat.le_trans (cnt_le l) (by rw [h.2.2.1]; exact place_le h.2.2.2.2.1 h.2.2.2.2.2)
    have hne : gh ≠ gl := h.2.2.2.1
    clear h p1 p2 p3 p4
    obtain ⟨o, ho⟩ : ∃ o, l[s.toNat * sz + i.toNat]? = some o := ⟨_, List.getElem?_eq_getElem hk⟩
    have hs' : spot st sz s i l = o := by unfold spot; rw [hp, ho]; rfl
    cases o with
    | none =>
      rw [hs']
      go_enter Try.func16, Try.ntmps16
      go_wp2_with fail
      refine ((H.out.alloc _).at_any s i).mono ?_
      rintro e w1 ⟨rfl, hw1⟩
      rw [hp, if_pos rfl]
      have H1 := Lib.hid ((H.out.alloc _).below hw1 (by simp; omega) (by simp; omega))
      have c0 := H1.out.cell (s.toNat * sz + i.toNat) 0 (by omega)
      rw [ho] at c0
      simp only [Option.bind_some, slot, List.getElem?_cons_zero, Nat.add_zero] at c0
      have HW := Lib.hid (step_below (a := w) (by repeat first | exact Below.refl _ _ | refine Below.drew ?_ | refine Below.alloc ?_ (by simp <;> omega) _) hw1)
      clear hw1
      generalize hkk : s.toNat * sz + i.toNat = k at *
      go_wp2_with fail
      go_ret
      have hll : l.set k none = l := by
        apply List.ext_getElem?
        intro t
        rw [List.getElem?_set]
        by_cases ht : k = t
        · subst ht; rw [if_pos rfl, if_pos hk, ho]
        · rw [if_neg ht]
      rw [hkk, hll]
      exact ⟨rfl, Mod.of_below HW.out, H1.out⟩
    | some v =>
      rw [hs']
      have hn0 : 1 ≤ cnt l := by have := cnt_set_none l _ (by rw [ho]; rfl); omega
      have hx1 : IntKind.i64.wrap ((cnt l : Int) - 1) = (cnt l : Int) - 1 := by
        rw [IntKind.wrap_i64]; omega
      go_enter Try.func16, Try.ntmps16
      go_wp2_with fail
      refine ((H.out.alloc _).at_any s i).mono ?_
      rintro e w1 ⟨rfl, hw1⟩
      rw [hp, if_pos rfl]
      have H1 := Lib.hid ((H.out.alloc _).below hw1 (by simp; omega) (by simp; omega))
      have c0 := H1.out.cell (s.toNat * sz + i.toNat) 0 (by omega)
      have c1 := H1.out.cell (s.toNat * sz + i.toNat) 1 (by omega)
      have c2 := H1.out.1.cell 3
      have f0 := H1.out.2.1.frozen ((s.toNat * sz + i.toNat) * 2)
      have f1 := H1.out.2.1.frozen ((s.toNat * sz + i.toNat) * 2 + 1)
      have f2 := H1.out.1.frozen 3
      have e1 := H1.out.1.lt
      have e2 := H1.out.2.1.lt
      rw [ho] at c0 c1
      simp only [Option.bind_some, slot, List.getElem?_cons_zero, List.getElem?_cons_succ, Nat.add_zero, List.getElem?_toArray] at c0 c1 c2
      have HW := Lib.hid (step_below (a := w) (by repeat first | exact Below.refl _ _ | refine Below.drew ?_ | refine Below.alloc ?_ (by simp <;> omega) _) hw1)
      clear hw1
      generalize hkk : s.toNat * sz + i.toNat = k at *
      generalize hnn : cnt l = n at *
      go_wp2_with fail
      go_ret
      have HG := H1.out.free2 k v ho
      rw [hnn] at HG
      subst hkk
      exact ⟨rfl, (((Mod.of_below HW.out).setCell _ _ (fun _ => Or.inr rfl)).setCell _ _ (fun _ => Or.inr rfl)).setCell _ _ (fun _ => Or.inl rfl), HG⟩
end Gi

namespace Gs
set_option maxHeartbeats 1000000 in
theorem free_any (gh gl st sz : Nat) (l : List (Option V)) (s i : Int) (w : World) (h : Gr w gh gl st sz l) :
    Calls Try.prog 46 #[.pointer (some ⟨gh, 0, none⟩), .agg #[.int .i64 s, .int .i64 i]] w fun e w' => e = .returned (.bool (spot st sz s i l).isSome) ∧ Mod (fun b => b = gh ∨ b = gl) w w' ∧ Gr w' gh gl st sz (put st sz s i l none) := by
  have H := Lib.hid h
  have hl1 := h.1.lt
  have hl2 := h.2.1.lt
  cases hp : pin st sz s i
  · have hs : put st sz s i l none = l := by unfold put; rw [hp]; rfl
    have hs' : spot st sz s i l = none := by unfold spot; rw [hp]; rfl
    rw [hs, hs']
    go_enter Try.func46, Try.ntmps46
    go_wp2_with fail
    refine ((H.out.alloc _).at_any s i).mono ?_
    rintro e w1 ⟨rfl, hw1⟩
    rw [hp]
    go_wp2_with fail
    go_ret
    have hb := step_below (a := w) (by repeat first | exact Below.refl _ _ | refine Below.drew ?_ | refine Below.alloc ?_ (by simp <;> omega) _) hw1
    exact ⟨rfl, Mod.of_below hb, H.out.below hb hl1 hl2⟩
  · have hs : put st sz s i l none = l.set (s.toNat * sz + i.toNat) none := by unfold put; rw [hp]; rfl
    rw [hs]
    simp only [pin, decide_eq_true_eq] at hp
    obtain ⟨p1, p2, p3, p4⟩ := hp
    have hk : s.toNat * sz + i.toNat < l.length := by rw [h.2.2.1]; exact place_lt (by omega) (by omega)
    have hp : pin st sz s i = true := by simp only [pin, decide_eq_true_eq]; omega
    have hn : cnt l ≤ 4096 := Nat.le_trans (cnt_le l) (by rw [h.2.2.1]; exact place_le h.2.2.2.2.1 h.2.2.2.2.2)
    have hne : gh ≠ gl := h.2.2.2.1
    clear h p1 p2 p3 p4
    obtain ⟨o, ho⟩ : ∃ o, l[s.toNat * sz + i.toNat]? = some o := ⟨_, List.getElem?_eq_getElem hk⟩
    have hs' : spot st sz s i l = o := by unfold spot; rw [hp, ho]; rfl
    cases o with
    | none =>
      rw [hs']
      go_enter Try.func46, Try.ntmps46
      go_wp2_with fail
      refine ((H.out.alloc _).at_any s i).mono ?_
      rintro e w1 ⟨rfl, hw1⟩
      rw [hp, if_pos rfl]
      have H1 := Lib.hid ((H.out.alloc _).below hw1 (by simp; omega) (by simp; omega))
      have c0 := H1.out.cell (s.toNat * sz + i.toNat) 0 (by omega)
      rw [ho] at c0
      simp only [Option.bind_some, slot, List.getElem?_cons_zero, Nat.add_zero] at c0
      have HW := Lib.hid (step_below (a := w) (by repeat first | exact Below.refl _ _ | refine Below.drew ?_ | refine Below.alloc ?_ (by simp <;> omega) _) hw1)
      clear hw1
      generalize hkk : s.toNat * sz + i.toNat = k at *
      go_wp2_with fail
      go_ret
      have hll : l.set k none = l := by
        apply List.ext_getElem?
        intro t
        rw [List.getElem?_set]
        by_cases ht : k = t
        · subst ht; rw [if_pos rfl, if_pos hk, ho]
        · rw [if_neg ht]
      rw [hkk, hll]
      exact ⟨rfl, Mod.of_below HW.out, H1.out⟩
    | some v =>
      rw [hs']
      have hn0 : 1 ≤ cnt l := by have := cnt_set_none l _ (by rw [ho]; rfl); omega
      have hx1 : IntKind.i64.wrap ((cnt l : Int) - 1) = (cnt l : Int) - 1 := by
        rw [IntKind.wrap_i64]; omega
      go_enter Try.func46, Try.ntmps46
      go_wp2_with fail
      refine ((H.out.alloc _).at_any s i).mono ?_
      rintro e w1 ⟨rfl, hw1⟩
      rw [hp, if_pos rfl]
      have H1 := Lib.hid ((H.out.alloc _).below hw1 (by simp; omega) (by simp; omega))
      have c0 := H1.out.cell (s.toNat * sz + i.toNat) 0 (by omega)
      have c1 := H1.out.cell (s.toNat * sz + i.toNat) 1 (by omega)
      have c2 := H1.out.1.cell 3
      have f0 := H1.out.2.1.frozen ((s.toNat * sz + i.toNat) * 2)
      have f1 := H1.out.2.1.frozen ((s.toNat * sz + i.toNat) * 2 + 1)
      have f2 := H1.out.1.frozen 3
      have e1 := H1.out.1.lt
      have e2 := H1.out.2.1.lt
      rw [ho] at c0 c1
      simp only [Option.bind_some, slot, List.getElem?_cons_zero, List.getElem?_cons_succ, Nat.add_zero, List.getElem?_toArray] at c0 c1 c2
      have HW := Lib.hid (step_below (a := w) (by repeat first | exact Below.refl _ _ | refine Below.drew ?_ | refine Below.alloc ?_ (by simp <;> omega) _) hw1)
      clear hw1
      generalize hkk : s.toNat * sz + i.toNat = k at *
      generalize hnn : cnt l = n at *
      go_wp2_with fail
      go_ret
      have HG := H1.out.free2 k v ho
      rw [hnn] at HG
      subst hkk
      exact ⟨rfl, (((Mod.of_below HW.out).setCell _ _ (fun _ => Or.inr rfl)).setCell _ _ (fun _ => Or.inr rfl)).setCell _ _ (fun _ => Or.inl rfl), HG⟩
end Gs
end Go.Proofs.Ytjlgkljifpjehaa
