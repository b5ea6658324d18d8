/-
  The grid's methods, one contract each, for each type that a grid is made of.
-/
import Derived.Test.YtjlgkljifpjehaaGrid2Get
import Derived.WalkSpells
import Derived.WalkLawsBesides
import Derived.Lib.Hide
import Derived.Laws.MakeOwn
import Derived.OwnWalk
namespace Go.Proofs.Ytjlgkljifpjehaa
open Go.RowKit
/-- Three cells a place: one place set anew. -/
theorem cells_set3 {V : Type} {enc : V → List Value} {zs : List Value} (hz : zs.length = 2) (he : ∀ x, (enc x).length = 2) (l : List (Option V)) (k : Nat) (hk : k < l.length) (o : Option V) (b v u : Value) (ho : slot enc zs o = [b, v, u]) :
    (((cells enc zs l).setIfInBounds (k * 3) b).setIfInBounds (k * 3 + 1) v).setIfInBounds (k * 3 + 2) u = cells enc zs (l.set k o) := by
  apply Array.ext_getElem?
  intro t
  obtain ⟨q, r, hr, rfl⟩ : ∃ q r, r < 3 ∧ t = q * 3 + r := ⟨t / 3, t % 3, by omega, by omega⟩
  have hs : (cells enc zs l).size = l.length * 3 := cells_size hz he l
  have h1 := cells_get hz he l q r hr
  have h2 := cells_get hz he (l.set k o) q r hr
  rw [Array.getElem?_setIfInBounds, Array.getElem?_setIfInBounds, Array.getElem?_setIfInBounds, Array.size_setIfInBounds, Array.size_setIfInBounds, hs, h1, h2, List.getElem?_set]
  by_cases hq : k = q
  · subst hq
    have : r = 0 ∨ r = 1 ∨ r = 2 := by omega
    rcases this with rfl | rfl | rfl
    · rw [if_neg (by omega), if_neg (by omega), if_pos (by omega), if_pos (by omega), if_pos rfl, if_pos hk]
      simp [ho]
    · rw [if_neg (by omega), if_pos rfl, if_pos (by omega), if_pos rfl, if_pos hk]
      simp [ho]
    · rw [if_pos rfl, if_pos (by omega), if_pos rfl, if_pos hk]
      simp [ho]
  · rw [if_neg (by omega), if_neg (by omega), if_neg (by omega), if_neg hq]

namespace G2
/-- What is there behind a place is set anew. -/
def put (st sz : Nat) (s i : Int) (l : List (Option V)) (o : Option V) : List (Option V) := if pin st sz s i then l.set (s.toNat * sz + i.toNat) o else l
theorem put_length (st sz : Nat) (s i : Int) (l : List (Option V)) (o : Option V) : (put st sz s i l o).length = l.length := by unfold put; split <;> simp
theorem Gr.put3 {w : World} {gh gl st sz : Nat} {l : List (Option V)} (h : Gr w gh gl st sz l) (k : Nat) (v x : V) (hk : l[k]? = some (some v)) :
    Gr (((w.setCell ⟨gl, k * 3, none⟩ (.bool true)).setCell ⟨gl, k * 3 + 1, none⟩ (.int .i64 x.1)).setCell ⟨gl, k * 3 + 2, none⟩ (.int .i64 x.2)) gh gl st sz (l.set k (some x)) := by
  have hkl : k < l.length := (List.getElem?_eq_some_iff.1 hk).1
  have hc : cnt (l.set k (some x)) = cnt l := by rw [cnt_set_some l k x hkl, hk]; rfl
  refine ⟨?_, ?_, by rw [List.length_set]; exact h.2.2.1, h.2.2.2⟩
  · rw [hc]; exact ((h.1.far h.2.2.2.1 _).far h.2.2.2.1 _).far h.2.2.2.1 _
  · rw [← cells_set3 rfl (fun _ => rfl) l k hkl (some x) (.bool true) (.int .i64 x.1) (.int .i64 x.2) rfl]
    exact ((h.2.1.set _ _).set _ _).set _ _
theorem Gr.add3 {w : World} {gh gl st sz : Nat} {l : List (Option V)} (h : Gr w gh gl st sz l) (k : Nat) (x : V) (hk : l[k]? = some none) :
    Gr ((((w.setCell ⟨gh, 3, none⟩ (.int .i64 ((cnt l : Int) + 1))).setCell ⟨gl, k * 3, none⟩ (.bool true)).setCell ⟨gl, k * 3 + 1, none⟩ (.int .i64 x.1)).setCell ⟨gl, k * 3 + 2, none⟩ (.int .i64 x.2)) gh gl st sz (l.set k (some x)) := by
  have hkl : k < l.length := (List.getElem?_eq_some_iff.1 hk).1
  have hc : cnt (l.set k (some x)) = cnt l + 1 := by rw [cnt_set_some l k x hkl, hk]; rfl
  refine ⟨?_, ?_, by rw [List.length_set]; exact h.2.2.1, h.2.2.2⟩
  · rw [hc, Int.natCast_add]; exact (((h.1.set 3 _).far h.2.2.2.1 _).far h.2.2.2.1 _).far h.2.2.2.1 _
  · rw [← cells_set3 rfl (fun _ => rfl) l k hkl (some x) (.bool true) (.int .i64 x.1) (.int .i64 x.2) rfl]
    exact (((h.2.1.far (Ne.symm h.2.2.2.1) _).set _ _).set _ _).set _ _
theorem Gr.free3 {w : World} {gh gl st sz : Nat} {l : List (Option V)} (h : Gr w gh gl st sz l) (k : Nat) (x : V) (hk : l[k]? = some (some x)) :
    Gr ((((w.setCell ⟨gl, k * 3, none⟩ (.bool false)).setCell ⟨gl, k * 3 + 1, none⟩ (.int .i64 0)).setCell ⟨gl, k * 3 + 2, none⟩ (.int .i64 0)).setCell ⟨gh, 3, none⟩ (.int .i64 ((cnt l : Int) - 1))) gh gl st sz (l.set k none) := by
  have hkl : k < l.length := (List.getElem?_eq_some_iff.1 hk).1
  have hc : ((cnt l : Int) - 1) = (cnt (l.set k none) : Int) := by have := cnt_set_none l k (by rw [hk]; rfl); omega
  refine ⟨?_, ?_, by rw [List.length_set]; exact h.2.2.1, h.2.2.2⟩
  · rw [hc]; exact (((h.1.far h.2.2.2.1 _).far h.2.2.2.1 _).far h.2.2.2.1 _).set 3 _
  · rw [← cells_set3 rfl (fun _ => rfl) l k hkl none (.bool false) (.int .i64 0) (.int .i64 0) rfl]
    exact (((h.2.1.set _ _).set _ _).set _ _).far (Ne.symm h.2.2.2.1) _
set_option maxHeartbeats 1000000 in
theorem set_any (gh gl st sz : Nat) (l : List (Option V)) (s i : Int) (x : V) (w : World) (h : Gr w gh gl st sz l) :
    Calls Try.prog 21 #[.pointer (some ⟨gh, 0, none⟩), .agg #[.int .i64 s, .int .i64 i], .agg #[.int .i64 x.1, .int .i64 x.2]] w fun e w' => e = .returned (.bool (pin st sz s i)) ∧ Mod (fun b => b = gh ∨ b = gl) w w' ∧ Gr w' gh gl st sz (put st sz s i l (some x)) := by
  have H := Lib.hid h
  have hl1 := h.1.lt
  have hl2 := h.2.1.lt
  cases hp : pin st sz s i
  · have hs : put st sz s i l (some x) = l := by unfold put; rw [hp]; rfl
    rw [hs]
    go_enter Try.func21, Try.ntmps21
    go_wp2_with fail
    refine (((H.out.alloc _).alloc _).at_any s i).mono ?_
    rintro e w1 ⟨rfl, hw1⟩
    rw [hp]
    go_wp2_with fail
    go_ret
    have hb := step_below (a := w) (by repeat first | exact Below.refl _ _ | refine Below.drew ?_ | refine Below.alloc ?_ (by simp <;> omega) _) hw1
    exact ⟨rfl, Mod.of_below hb, H.out.below hb hl1 hl2⟩
  · have hs : put st sz s i l (some x) = l.set (s.toNat * sz + i.toNat) (some x) := by unfold put; rw [hp]; rfl
    rw [hs]
    simp only [pin, decide_eq_true_eq] at hp
    obtain ⟨p1, p2, p3, p4⟩ := hp
    have hk : s.toNat * sz + i.toNat < l.length := by rw [h.2.2.1]; exact place_lt (by omega) (by omega)
    have hp : pin st sz s i = true := by simp only [pin, decide_eq_true_eq]; omega
    have hn : cnt l ≤ 4096 := Nat.le_trans (cnt_le l) (by rw [h.2.2.1]; exact place_le h.2.2.2.2.1 h.2.2.2.2.2)
    have hne : gh ≠ gl := h.2.2.2.1
    clear h p1 p2 p3 p4
    have hx1 : IntKind.i64.wrap ((cnt l : Int) + 1) = ((cnt l + 1 : Nat) : Int) := by
      rw [IntKind.wrap_i64]; omega
    obtain ⟨o, ho⟩ : ∃ o, l[s.toNat * sz + i.toNat]? = some o := ⟨_, List.getElem?_eq_getElem hk⟩
    cases o with
    | none => 
      go_enter Try.func21, Try.ntmps21
      go_wp2_with fail
      refine (((H.out.alloc _).alloc _).at_any s i).mono ?_
      rintro e w1 ⟨rfl, hw1⟩
      rw [hp, if_pos rfl]
      have H1 := Lib.hid (((H.out.alloc _).alloc _).below hw1 (by simp; omega) (by simp; omega))
      have c0 := H1.out.cell (s.toNat * sz + i.toNat) 0 (by omega)
      have c1 := H1.out.cell (s.toNat * sz + i.toNat) 1 (by omega)
      have c2 := H1.out.1.cell 3
      have f0 := H1.out.2.1.frozen ((s.toNat * sz + i.toNat) * 3)
      have f1 := H1.out.2.1.frozen ((s.toNat * sz + i.toNat) * 3 + 1)
      have f2 := H1.out.1.frozen 3
      have e1 := H1.out.1.lt
      have e2 := H1.out.2.1.lt
      rw [ho] at c0 c1
      simp only [Option.bind_some, slot, List.getElem?_cons_zero, List.getElem?_cons_succ, Nat.add_zero, List.getElem?_toArray] at c0 c1 c2
      have c9 := H1.out.cell (s.toNat * sz + i.toNat) 2 (by omega)
      have f9 := H1.out.2.1.frozen ((s.toNat * sz + i.toNat) * 3 + 2)
      rw [ho] at c9
      simp only [Option.bind_some, slot, List.getElem?_cons_zero, List.getElem?_cons_succ] at c9
      have hX := Lib.hid ((At.new (w.alloc (.cells #[.int .i64 s, .int .i64 i] 23)) 47 #[.int .i64 x.1, .int .i64 x.2]).below hw1 (by simp))
      have e5 := hX.out.lt
      have c5 := hX.out.cell 0
      have c6 := hX.out.cell 1
      simp only [List.getElem?_toArray, List.getElem?_cons_zero, List.getElem?_cons_succ, World.size_alloc] at c5 c6 e5
      have m1 : ¬ w.heap.size + 1 = gh := by omega
      have m2 : ¬ gh = w.heap.size + 1 := by omega
      have HW := Lib.hid (step_below (a := w) (by repeat first | exact Below.refl _ _ | refine Below.drew ?_ | refine Below.alloc ?_ (by simp <;> omega) _) hw1)
      clear hw1
      generalize hkk : s.toNat * sz + i.toNat = k at *
      generalize hnn : cnt l = n at *
      go_wp2_with fail
      go_ret
      have HG := H1.out.add3 k x ho
      rw [hnn] at HG
      subst hkk
      exact ⟨rfl, ((((Mod.of_below HW.out).setCell _ _ (fun _ => Or.inl rfl)).setCell _ _ (fun _ => Or.inr rfl)).setCell _ _ (fun _ => Or.inr rfl)).setCell _ _ (fun _ => Or.inr rfl), HG⟩
    | some v => 
      go_enter Try.func21, Try.ntmps21
      go_wp2_with fail
      refine (((H.out.alloc _).alloc _).at_any s i).mono ?_
      rintro e w1 ⟨rfl, hw1⟩
      rw [hp, if_pos rfl]
      have H1 := Lib.hid (((H.out.alloc _).alloc _).below hw1 (by simp; omega) (by simp; omega))
      have c0 := H1.out.cell (s.toNat * sz + i.toNat) 0 (by omega)
      have c1 := H1.out.cell (s.toNat * sz + i.toNat) 1 (by omega)
      have c2 := H1.out.1.cell 3
      have f0 := H1.out.2.1.frozen ((s.toNat * sz + i.toNat) * 3)
      have f1 := H1.out.2.1.frozen ((s.toNat * sz + i.toNat) * 3 + 1)
      have f2 := H1.out.1.frozen 3
      have e1 := H1.out.1.lt
      have e2 := H1.out.2.1.lt
      rw [ho] at c0 c1
      simp only [Option.bind_some, slot, List.getElem?_cons_zero, List.getElem?_cons_succ, Nat.add_zero, List.getElem?_toArray] at c0 c1 c2
      have c9 := H1.out.cell (s.toNat * sz + i.toNat) 2 (by omega)
      have f9 := H1.out.2.1.frozen ((s.toNat * sz + i.toNat) * 3 + 2)
      rw [ho] at c9
      simp only [Option.bind_some, slot, List.getElem?_cons_zero, List.getElem?_cons_succ] at c9
      have hX := Lib.hid ((At.new (w.alloc (.cells #[.int .i64 s, .int .i64 i] 23)) 47 #[.int .i64 x.1, .int .i64 x.2]).below hw1 (by simp))
      have e5 := hX.out.lt
      have c5 := hX.out.cell 0
      have c6 := hX.out.cell 1
      simp only [List.getElem?_toArray, List.getElem?_cons_zero, List.getElem?_cons_succ, World.size_alloc] at c5 c6 e5
      have m1 : ¬ w.heap.size + 1 = gh := by omega
      have m2 : ¬ gh = w.heap.size + 1 := by omega
      have HW := Lib.hid (step_below (a := w) (by repeat first | exact Below.refl _ _ | refine Below.drew ?_ | refine Below.alloc ?_ (by simp <;> omega) _) hw1)
      clear hw1
      generalize hkk : s.toNat * sz + i.toNat = k at *
      generalize hnn : cnt l = n at *
      go_wp2_with fail
      go_ret
      have HG := H1.out.put3 k v x ho
      subst hkk
      exact ⟨rfl, (((Mod.of_below HW.out).setCell _ _ (fun _ => Or.inr rfl)).setCell _ _ (fun _ => Or.inr rfl)).setCell _ _ (fun _ => Or.inr rfl), HG⟩
end G2

namespace G2
set_option maxHeartbeats 1000000 in
theorem free_any (gh gl st sz : Nat) (l : List (Option V)) (s i : Int) (w : World) (h : Gr w gh gl st sz l) :
    Calls Try.prog 25 #[.pointer (some ⟨gh, 0, none⟩), .agg #[.int .i64 s, .int .i64 i]] w fun e w' => e = .returned (.bool (spot st sz s i l).isSome) ∧ Mod (fun b => b = gh ∨ b = gl) w w' ∧ Gr w' gh gl st sz (put st sz s i l none) := by
  have H := Lib.hid h
  have hl1 := h.1.lt
  have hl2 := h.2.1.lt
  cases hp : pin st sz s i
  · have hs : put st sz s i l none = l := by unfold put; rw [hp]; rfl
    have hs' : spot st sz s i l = none := by unfold spot; rw [hp]; rfl
    rw [hs, hs']
    go_enter Try.func25, Try.ntmps25
    go_wp2_with fail
    refine ((H.out.alloc _).at_any s i).mono ?_
    rintro e w1 ⟨rfl, hw1⟩
    rw [hp]
    go_wp2_with fail
    go_ret
    have hb := step_below (a := w) (by repeat first | exact Below.refl _ _ | refine Below.drew ?_ | refine Below.alloc ?_ (by simp <;> omega) _) hw1
    exact ⟨rfl, Mod.of_below hb, H.out.below hb hl1 hl2⟩
  · have hs : put st sz s i l none = l.set (s.toNat * sz + i.toNat) none := by unfold put; rw [hp]; rfl
    rw [hs]
    simp only [pin, decide_eq_true_eq] at hp
    obtain ⟨p1, p2, p3, p4⟩ := hp
    have hk : s.toNat * sz + i.toNat < l.length := by rw [h.2.2.1]; exact place_lt (by omega) (by omega)
    have hp : pin st sz s i = true := by simp only [pin, decide_eq_true_eq]; omega
    have hn : cnt l ≤ 4096 := Nat.le_trans (cnt_le l) (by rw [h.2.2.1]; exact place_le h.2.2.2.2.1 h.2.2.2.2.2)
    have hne : gh ≠ gl := h.2.2.2.1
    clear h p1 p2 p3 p4
    obtain ⟨o, ho⟩ : ∃ o, l[s.toNat * sz + i.toNat]? = some o := ⟨_, List.getElem?_eq_getElem hk⟩
    have hs' : spot st sz s i l = o := by unfold spot; rw [hp, ho]; rfl
    cases o with
    | none =>
      rw [hs']
      go_enter Try.func25, Try.ntmps25
      go_wp2_with fail
      refine ((H.out.alloc _).at_any s i).mono ?_
      rintro e w1 ⟨rfl, hw1⟩
      rw [hp, if_pos rfl]
      have H1 := Lib.hid ((H.out.alloc _).below hw1 (by simp; omega) (by simp; omega))
      have c0 := H1.out.cell (s.toNat * sz + i.toNat) 0 (by omega)
      rw [ho] at c0
      simp only [Option.bind_some, slot, List.getElem?_cons_zero, Nat.add_zero] at c0
      have HW := Lib.hid (step_below (a := w) (by repeat first | exact Below.refl _ _ | refine Below.drew ?_ | refine Below.alloc ?_ (by simp <;> omega) _) hw1)
      clear hw1
      generalize hkk : s.toNat * sz + i.toNat = k at *
      go_wp2_with fail
      go_ret
      have hll : l.set k none = l := by
        apply List.ext_getElem?
        intro t
        rw [List.getElem?_set]
        by_cases ht : k = t
        · subst ht; rw [if_pos rfl, if_pos hk, ho]
        · rw [if_neg ht]
      rw [hkk, hll]
      exact ⟨rfl, Mod.of_below HW.out, H1.out⟩
    | some v =>
      rw [hs']
      have hn0 : 1 ≤ cnt l := by have := cnt_set_none l _ (by rw [ho]; rfl); omega
      have hx1 : IntKind.i64.wrap ((cnt l : Int) - 1) = (cnt l : Int) - 1 := by
        rw [IntKind.wrap_i64]; omega
      go_enter Try.func25, Try.ntmps25
      go_wp2_with fail
      refine ((H.out.alloc _).at_any s i).mono ?_
      rintro e w1 ⟨rfl, hw1⟩
      rw [hp, if_pos rfl]
      have H1 := Lib.hid ((H.out.alloc _).below hw1 (by simp; omega) (by simp; omega))
      have c0 := H1.out.cell (s.toNat * sz + i.toNat) 0 (by omega)
      have c1 := H1.out.cell (s.toNat * sz + i.toNat) 1 (by omega)
      have c2 := H1.out.1.cell 3
      have f0 := H1.out.2.1.frozen ((s.toNat * sz + i.toNat) * 3)
      have f1 := H1.out.2.1.frozen ((s.toNat * sz + i.toNat) * 3 + 1)
      have f2 := H1.out.1.frozen 3
      have e1 := H1.out.1.lt
      have e2 := H1.out.2.1.lt
      rw [ho] at c0 c1
      simp only [Option.bind_some, slot, List.getElem?_cons_zero, List.getElem?_cons_succ, Nat.add_zero, List.getElem?_toArray] at c0 c1 c2
      have c9 := H1.out.cell (s.toNat * sz + i.toNat) 2 (by omega)
      have f9 := H1.out.2.1.frozen ((s.toNat * sz + i.toNat) * 3 + 2)
      rw [ho] at c9
      simp only [Option.bind_some, slot, List.getElem?_cons_zero, List.getElem?_cons_succ] at c9
      have HW := Lib.hid (step_below (a := w) (by repeat first | exact Below.refl _ _ | refine Below.drew ?_ | refine Below.alloc ?_ (by simp <;> omega) _) hw1)
      clear hw1
      generalize hkk : s.toNat * sz + i.toNat = k at *
      generalize hnn : cnt l = n at *
      go_wp2_with fail
      go_ret
      have HG := H1.out.free3 k v ho
      rw [hnn] at HG
      subst hkk
      exact ⟨rfl, ((((Mod.of_below HW.out).setCell _ _ (fun _ => Or.inr rfl)).setCell _ _ (fun _ => Or.inr rfl)).setCell _ _ (fun _ => Or.inr rfl)).setCell _ _ (fun _ => Or.inl rfl), HG⟩
end G2
end Go.Proofs.Ytjlgkljifpjehaa
