/-
  The grid's methods, one contract each, for each type that a grid is made of.
-/
import Derived.Test.YtjlgkljifpjehaaGridAwake
import Derived.WalkSpells
import Derived.WalkLawsBesides
import Derived.Lib.Hide
import Derived.Laws.MakeOwn
import Derived.OwnWalk
namespace Go.Proofs.Ytjlgkljifpjehaa
open Go.RowKit
namespace Gi
variable {st sz : Nat} {s i : Int} {l : List (Option V)} {o : Option V}
theorem put_off (h : pin st sz s i = false) : put st sz s i l o = l := by unfold put; rw [h]; rfl
theorem spot_off (h : pin st sz s i = false) : spot st sz s i l = none := by unfold spot; rw [h]; rfl
theorem place_in (h : pin st sz s i = true) (hl : l.length = st * sz) : s.toNat * sz + i.toNat < l.length := by
  simp only [pin, decide_eq_true_eq] at h
  rw [hl]; exact place_lt (by omega) (by omega)
theorem spot_put (h : pin st sz s i = true) (hl : l.length = st * sz) : spot st sz s i (put st sz s i l o) = o := by
  unfold spot put
  rw [h, if_pos rfl, if_pos rfl, List.getElem?_set_self (place_in h hl)]; rfl
theorem cnt_new (h : pin st sz s i = true) (hl : l.length = st * sz) (x : V) (hs : spot st sz s i l = none) : cnt (put st sz s i l (some x)) = cnt l + 1 := by
  unfold spot at hs; rw [h, if_pos rfl] at hs
  unfold put
  rw [h, if_pos rfl, cnt_set_some _ _ _ (place_in h hl), hs]; rfl
theorem cnt_gone (h : pin st sz s i = true) (x : V) (hs : spot st sz s i l = some x) : cnt (put st sz s i l none) + 1 = cnt l := by
  unfold spot at hs; rw [h, if_pos rfl] at hs
  unfold put
  rw [h, if_pos rfl]
  exact cnt_set_none _ _ (by rw [hs]; rfl)
theorem spot_none (n : Nat) : spot st sz s i (List.replicate n none) = none := by
  unfold spot; split
  · rw [List.getElem?_replicate]; split <;> rfl
  · rfl
end Gi
set_option maxHeartbeats 4000000 in
theorem ends_any (st sz s i : Int) (w : World) : Calls Try.prog 3 #[.int .i64 st, .int .i64 sz, .agg #[.int .i64 s, .int .i64 i]] w fun e w' => e = .returned (.bool true) ∧ Below w.heap.size w w' := by
  by_cases hb : 1 ≤ st ∧ st ≤ 4 ∧ 1 ≤ sz ∧ sz ≤ 1024
  · obtain ⟨b1, b2, b3, b4⟩ := hb
    obtain ⟨a, rfl⟩ : ∃ a : Nat, st = a := ⟨st.toNat, by omega⟩
    obtain ⟨b, rfl⟩ : ∃ b : Nat, sz = b := ⟨sz.toNat, by omega⟩
    have d1 : decide ((a : Int) < 1) = false := by simp; omega
    have d2 : decide (4 < (a : Int)) = false := by simp; omega
    have d3 : decide ((b : Int) < 1) = false := by simp; omega
    have d4 : decide (1024 < (b : Int)) = false := by simp; omega
    have x1 : IntKind.i64.wrap ((a : Int) - 1) = (a : Int) - 1 := by rw [IntKind.wrap_i64]; omega
    have x2 : IntKind.i64.wrap ((b : Int) - 1) = (b : Int) - 1 := by rw [IntKind.wrap_i64]; omega
    have P1 := Lib.hid (show pin a b ((a : Int) - 1) ((b : Int) - 1) = true by simp only [pin, decide_eq_true_eq]; omega)
    have P2 := Lib.hid (show pin a b a 0 = false by simp only [pin, decide_eq_false_iff_not]; omega)
    have P3 := Lib.hid (show pin a b 0 b = false by simp only [pin, decide_eq_false_iff_not]; omega)
    have HN := Lib.hid (show 1 ≤ a ∧ a ≤ 4 ∧ 1 ≤ b ∧ b ≤ 1024 by omega)
    clear b1 b2 b3 b4
    have hcase : ((decide ((0 : Int) ≤ s) = false ∧ pin a b s i = false) ∨ (0 ≤ s ∧ decide (s < (a : Int)) = false ∧ pin a b s i = false) ∨ (0 ≤ s ∧ s < a ∧ decide (0 ≤ i) = false ∧ pin a b s i = false) ∨ (0 ≤ s ∧ s < a ∧ 0 ≤ i ∧ decide (i < (b : Int)) = false ∧ pin a b s i = false) ∨ (0 ≤ s ∧ s < a ∧ 0 ≤ i ∧ i < b ∧ pin a b s i = true)) := by
      simp only [decide_eq_false_iff_not, pin, decide_eq_true_eq]
      omega
    go_enter Try.func3, Try.ntmps3
    go_wp2_with fail
    have f0 := At.new w 23 #[.int .i64 s, .int .i64 i]
    refine (Gi.new_ok a b HN.out.1 HN.out.2.1 HN.out.2.2.1 HN.out.2.2.2 _).mono ?_
    rintro e w1 ⟨rfl, hg, hb⟩
    have F1 := Lib.hid (f0.below hb (by simp))
    have hp1 := F1.out.lt
    obtain ⟨gp, hgp⟩ : ∃ gp, gp = w.heap.size := ⟨_, rfl⟩
    have HB1 := Lib.hid (step_below (a := w) (by repeat first | exact Below.refl _ _ | refine Below.drew ?_ | refine Below.alloc ?_ (by simp <;> omega) _) hb)
    obtain ⟨gh, hgh⟩ : ∃ gh, gh = (w.alloc (.cells #[.int .i64 s, .int .i64 i] 23)).heap.size + 1 := ⟨_, rfl⟩
    obtain ⟨gl, hgl⟩ : ∃ gl, gl = (w.alloc (.cells #[.int .i64 s, .int .i64 i] 23)).heap.size := ⟨_, rfl⟩
    have e1 : (w.alloc (.cells #[.int .i64 s, .int .i64 i] 23)).heap.size = w.heap.size + 1 := by simp
    have HGH := Lib.hid (show w.heap.size ≤ gh by omega)
    have HGL := Lib.hid (show w.heap.size ≤ gl by omega)
    have n3 : ¬ (gp = gh ∨ gp = gl) := by omega
    rw [← hgh]
    rw [← hgh, ← hgl] at hg
    have HG1 := Lib.hid hg
    have s1 : w.heap.size ≤ w1.heap.size := HB1.out.size
    rw [← hgp] at F1 hp1
    have c0 := F1.out.cell 0
    have c1 := F1.out.cell 1
    simp only [List.getElem?_toArray, List.getElem?_cons_zero, List.getElem?_cons_succ] at c0 c1
    have hgp' : w.heap.size = gp := hgp.symm
    clear f0 hb hg hgh hgl e1 hgp
    rcases hcase with ⟨k1, hpn⟩ | ⟨k1, k2, hpn⟩ | ⟨k1, k2, k3, hpn⟩ | ⟨k1, k2, k3, k4, hpn⟩ | ⟨k1, k2, k3, k4, hpn⟩
    · have PN := Lib.hid hpn
      clear hpn
      go_wp2_with fail
      refine (Gi.set_any gh gl a b _ s i 5 _ HG1.out).mono ?_
      rintro e w2 ⟨rfl, hm, hg⟩
      rw [PN.out]
      rw [Gi.put_off PN.out] at hg
      have F2 := Lib.hid (F1.out.mod hm n3)
      have HB2 := Lib.hid (HB1.out.trans (mod_below hm s1 (fun i hi => by have := HGH.out; have := HGL.out; omega)))
      have s2 : w.heap.size ≤ w2.heap.size := HB2.out.size
      have HG2 := Lib.hid hg
      have hp2 := F2.out.lt
      have c0 := F2.out.cell 0
      have c1 := F2.out.cell 1
      simp only [List.getElem?_toArray, List.getElem?_cons_zero, List.getElem?_cons_succ] at c0 c1
      clear hm hg HB1 HG1 s1 F1 hp1
      go_wp2_with fail
      refine (Gi.get_any gh gl a b _ s i _ HG2.out).mono ?_
      rintro e w3 ⟨rfl, hb⟩
      rw [Gi.spot_off PN.out, show Gi.valOf none = .int .i64 0 from rfl, Option.isSome_none]
      have F3 := Lib.hid (F2.out.below hb hp2)
      have HB3 := Lib.hid (HB2.out.trans (hb.mono s2))
      have s3 : w.heap.size ≤ w3.heap.size := HB3.out.size
      have HG3 := Lib.hid (HG2.out.below hb HG2.out.1.lt HG2.out.2.1.lt)
      have hp3 := F3.out.lt
      have c0 := F3.out.cell 0
      have c1 := F3.out.cell 1
      simp only [List.getElem?_toArray, List.getElem?_cons_zero, List.getElem?_cons_succ] at c0 c1
      clear hb HB2 HG2 s2 F2 hp2
      go_wp2_with fail
      refine (Gi.len_any gh gl a b _ _ HG3.out).mono ?_
      rintro e w4 ⟨rfl, hw⟩
      obtain rfl : w3 = w4 := hw.symm
      rw [cnt_replicate]
      go_wp2_with fail
      refine (Gi.free_any gh gl a b _ s i _ HG3.out).mono ?_
      rintro e w5 ⟨rfl, hm, hg⟩
      rw [Gi.spot_off PN.out, Option.isSome_none]
      rw [Gi.put_off PN.out] at hg
      have F5 := Lib.hid (F3.out.mod hm n3)
      have HB5 := Lib.hid (HB3.out.trans (mod_below hm s3 (fun i hi => by have := HGH.out; have := HGL.out; omega)))
      have s5 : w.heap.size ≤ w5.heap.size := HB5.out.size
      have HG5 := Lib.hid hg
      have hp5 := F5.out.lt
      have c0 := F5.out.cell 0
      have c1 := F5.out.cell 1
      simp only [List.getElem?_toArray, List.getElem?_cons_zero, List.getElem?_cons_succ] at c0 c1
      clear hm hg HB3 HG3 s3 F3 hp3
      go_wp2_with fail
      have f6 := At.new w5 23 #[.int .i64 ((a : Int) - 1), .int .i64 ((b : Int) - 1)]
      refine (Gi.in_any gh a b _ _ s i _ (HG5.out.alloc _).1).mono ?_
      rintro e w6 ⟨rfl, hb⟩
      rw [PN.out]
      obtain ⟨gq, hgq⟩ : ∃ gq, gq = w5.heap.size := ⟨_, rfl⟩
      have F6 := Lib.hid (f6.below hb (by simp))
      have HB6 := Lib.hid (HB5.out.trans (step_below (a := w5) (by repeat first | exact Below.refl _ _ | refine Below.drew ?_ | refine Below.alloc ?_ (by simp <;> omega) _) hb |>.mono s5))
      have s6 : w.heap.size ≤ w6.heap.size := HB6.out.size
      have HG6 := Lib.hid ((HG5.out.alloc _).below hb (HG5.out.alloc _).1.lt (HG5.out.alloc _).2.1.lt)
      have hp6 := F6.out.lt
      have c0 := F6.out.cell 0
      have c1 := F6.out.cell 1
      simp only [List.getElem?_toArray, List.getElem?_cons_zero, List.getElem?_cons_succ] at c0 c1
      rw [← hgq] at F6 hp6 c0 c1
      rw [← hgq]
      clear hb HB5 HG5 s5 F5 hp5 f6 hgq
      go_wp2_with fail
      refine (Gi.len_any gh gl a b _ _ HG6.out).mono ?_
      rintro e w7 ⟨rfl, hw⟩
      obtain rfl : w6 = w7 := hw.symm
      rw [cnt_replicate]
      go_wp2_with fail
      refine (Gi.in_any gh a b _ _ _ _ _ HG6.out.1).mono ?_
      rintro e w7 ⟨rfl, hb⟩
      rw [P1.out]
      have F7 := Lib.hid (F6.out.below hb hp6)
      have HB7 := Lib.hid (HB6.out.trans (hb.mono s6))
      have s7 : w.heap.size ≤ w7.heap.size := HB7.out.size
      have HG7 := Lib.hid (HG6.out.below hb HG6.out.1.lt HG6.out.2.1.lt)
      have hp7 := F7.out.lt
      have c0 := F7.out.cell 0
      have c1 := F7.out.cell 1
      simp only [List.getElem?_toArray, List.getElem?_cons_zero, List.getElem?_cons_succ] at c0 c1
      clear hb HB6 HG6 s6 F6 hp6
      go_wp2_with fail
      refine (Gi.in_any gh a b _ _ _ _ _ HG7.out.1).mono ?_
      rintro e w8 ⟨rfl, hb⟩
      rw [P2.out]
      have F8 := Lib.hid (F7.out.below hb hp7)
      have HB8 := Lib.hid (HB7.out.trans (hb.mono s7))
      have s8 : w.heap.size ≤ w8.heap.size := HB8.out.size
      have HG8 := Lib.hid (HG7.out.below hb HG7.out.1.lt HG7.out.2.1.lt)
      have hp8 := F8.out.lt
      have c0 := F8.out.cell 0
      have c1 := F8.out.cell 1
      simp only [List.getElem?_toArray, List.getElem?_cons_zero, List.getElem?_cons_succ] at c0 c1
      clear hb HB7 HG7 s7 F7 hp7
      go_wp2_with fail
      refine (Gi.in_any gh a b _ _ _ _ _ HG8.out.1).mono ?_
      rintro e w9 ⟨rfl, hb⟩
      rw [P3.out]
      have F9 := Lib.hid (F8.out.below hb hp8)
      have HB9 := Lib.hid (HB8.out.trans (hb.mono s8))
      have s9 : w.heap.size ≤ w9.heap.size := HB9.out.size
      have HG9 := Lib.hid (HG8.out.below hb HG8.out.1.lt HG8.out.2.1.lt)
      have hp9 := F9.out.lt
      have c0 := F9.out.cell 0
      have c1 := F9.out.cell 1
      simp only [List.getElem?_toArray, List.getElem?_cons_zero, List.getElem?_cons_succ] at c0 c1
      clear hb HB8 HG8 s8 F8 hp8
      go_wp2_with fail
      refine (Gi.set_any gh gl a b _ _ _ 1 _ HG9.out).mono ?_
      rintro e w10 ⟨rfl, hm, hg⟩
      rw [P1.out]
      have HB10 := Lib.hid (HB9.out.trans (mod_below hm s9 (fun i hi => by have := HGH.out; have := HGL.out; omega)))
      have s10 : w.heap.size ≤ w10.heap.size := HB10.out.size
      clear hm hg HB9 HG9 s9 F9 hp9 c0 c1
      go_wp2_with fail
      refine (awake_any _).mono ?_
      rintro e w11 ⟨rfl, hb⟩
      have HB11 := Lib.hid (HB10.out.trans (hb.mono s10))
      clear hb
      go_wp2_with fail
      go_ret
      exact ⟨rfl, HB11.out⟩
    · have PN := Lib.hid hpn
      clear hpn
      go_wp2_with fail
      refine (Gi.set_any gh gl a b _ s i 5 _ HG1.out).mono ?_
      rintro e w2 ⟨rfl, hm, hg⟩
      rw [PN.out]
      rw [Gi.put_off PN.out] at hg
      have F2 := Lib.hid (F1.out.mod hm n3)
      have HB2 := Lib.hid (HB1.out.trans (mod_below hm s1 (fun i hi => by have := HGH.out; have := HGL.out; omega)))
      have s2 : w.heap.size ≤ w2.heap.size := HB2.out.size
      have HG2 := Lib.hid hg
      have hp2 := F2.out.lt
      have c0 := F2.out.cell 0
      have c1 := F2.out.cell 1
      simp only [List.getElem?_toArray, List.getElem?_cons_zero, List.getElem?_cons_succ] at c0 c1
      clear hm hg HB1 HG1 s1 F1 hp1
      go_wp2_with fail
      refine (Gi.get_any gh gl a b _ s i _ HG2.out).mono ?_
      rintro e w3 ⟨rfl, hb⟩
      rw [Gi.spot_off PN.out, show Gi.valOf none = .int .i64 0 from rfl, Option.isSome_none]
      have F3 := Lib.hid (F2.out.below hb hp2)
      have HB3 := Lib.hid (HB2.out.trans (hb.mono s2))
      have s3 : w.heap.size ≤ w3.heap.size := HB3.out.size
      have HG3 := Lib.hid (HG2.out.below hb HG2.out.1.lt HG2.out.2.1.lt)
      have hp3 := F3.out.lt
      have c0 := F3.out.cell 0
      have c1 := F3.out.cell 1
      simp only [List.getElem?_toArray, List.getElem?_cons_zero, List.getElem?_cons_succ] at c0 c1
      clear hb HB2 HG2 s2 F2 hp2
      go_wp2_with fail
      refine (Gi.len_any gh gl a b _ _ HG3.out).mono ?_
      rintro e w4 ⟨rfl, hw⟩
      obtain rfl : w3 = w4 := hw.symm
      rw [cnt_replicate]
      go_wp2_with fail
      refine (Gi.free_any gh gl a b _ s i _ HG3.out).mono ?_
      rintro e w5 ⟨rfl, hm, hg⟩
      rw [Gi.spot_off PN.out, Option.isSome_none]
      rw [Gi.put_off PN.out] at hg
      have F5 := Lib.hid (F3.out.mod hm n3)
      have HB5 := Lib.hid (HB3.out.trans (mod_below hm s3 (fun i hi => by have := HGH.out; have := HGL.out; omega)))
      have s5 : w.heap.size ≤ w5.heap.size := HB5.out.size
      have HG5 := Lib.hid hg
      have hp5 := F5.out.lt
      have c0 := F5.out.cell 0
      have c1 := F5.out.cell 1
      simp only [List.getElem?_toArray, List.getElem?_cons_zero, List.getElem?_cons_succ] at c0 c1
      clear hm hg HB3 HG3 s3 F3 hp3
      go_wp2_with fail
      have f6 := At.new w5 23 #[.int .i64 ((a : Int) - 1), .int .i64 ((b : Int) - 1)]
      refine (Gi.in_any gh a b _ _ s i _ (HG5.out.alloc _).1).mono ?_
      rintro e w6 ⟨rfl, hb⟩
      rw [PN.out]
      obtain ⟨gq, hgq⟩ : ∃ gq, gq = w5.heap.size := ⟨_, rfl⟩
      have F6 := Lib.hid (f6.below hb (by simp))
      have HB6 := Lib.hid (HB5.out.trans (step_below (a := w5) (by repeat first | exact Below.refl _ _ | refine Below.drew ?_ | refine Below.alloc ?_ (by simp <;> omega) _) hb |>.mono s5))
      have s6 : w.heap.size ≤ w6.heap.size := HB6.out.size
      have HG6 := Lib.hid ((HG5.out.alloc _).below hb (HG5.out.alloc _).1.lt (HG5.out.alloc _).2.1.lt)
      have hp6 := F6.out.lt
      have c0 := F6.out.cell 0
      have c1 := F6.out.cell 1
      simp only [List.getElem?_toArray, List.getElem?_cons_zero, List.getElem?_cons_succ] at c0 c1
      rw [← hgq] at F6 hp6 c0 c1
      rw [← hgq]
      clear hb HB5 HG5 s5 F5 hp5 f6 hgq
      go_wp2_with fail
      refine (Gi.len_any gh gl a b _ _ HG6.out).mono ?_
      rintro e w7 ⟨rfl, hw⟩
      obtain rfl : w6 = w7 := hw.symm
      rw [cnt_replicate]
      go_wp2_with fail
      refine (Gi.in_any gh a b _ _ _ _ _ HG6.out.1).mono ?_
      rintro e w7 ⟨rfl, hb⟩
      rw [P1.out]
      have F7 := Lib.hid (F6.out.below hb hp6)
      have HB7 := Lib.hid (HB6.out.trans (hb.mono s6))
      have s7 : w.heap.size ≤ w7.heap.size := HB7.out.size
      have HG7 := Lib.hid (HG6.out.below hb HG6.out.1.lt HG6.out.2.1.lt)
      have hp7 := F7.out.lt
      have c0 := F7.out.cell 0
      have c1 := F7.out.cell 1
      simp only [List.getElem?_toArray, List.getElem?_cons_zero, List.getElem?_cons_succ] at c0 c1
      clear hb HB6 HG6 s6 F6 hp6
      go_wp2_with fail
      refine (Gi.in_any gh a b _ _ _ _ _ HG7.out.1).mono ?_
      rintro e w8 ⟨rfl, hb⟩
      rw [P2.out]
      have F8 := Lib.hid (F7.out.below hb hp7)
      have HB8 := Lib.hid (HB7.out.trans (hb.mono s7))
      have s8 : w.heap.size ≤ w8.heap.size := HB8.out.size
      have HG8 := Lib.hid (HG7.out.below hb HG7.out.1.lt HG7.out.2.1.lt)
      have hp8 := F8.out.lt
      have c0 := F8.out.cell 0
      have c1 := F8.out.cell 1
      simp only [List.getElem?_toArray, List.getElem?_cons_zero, List.getElem?_cons_succ] at c0 c1
      clear hb HB7 HG7 s7 F7 hp7
      go_wp2_with fail
      refine (Gi.in_any gh a b _ _ _ _ _ HG8.out.1).mono ?_
      rintro e w9 ⟨rfl, hb⟩
      rw [P3.out]
      have F9 := Lib.hid (F8.out.below hb hp8)
      have HB9 := Lib.hid (HB8.out.trans (hb.mono s8))
      have s9 : w.heap.size ≤ w9.heap.size := HB9.out.size
      have HG9 := Lib.hid (HG8.out.below hb HG8.out.1.lt HG8.out.2.1.lt)
      have hp9 := F9.out.lt
      have c0 := F9.out.cell 0
      have c1 := F9.out.cell 1
      simp only [List.getElem?_toArray, List.getElem?_cons_zero, List.getElem?_cons_succ] at c0 c1
      clear hb HB8 HG8 s8 F8 hp8
      go_wp2_with fail
      refine (Gi.set_any gh gl a b _ _ _ 1 _ HG9.out).mono ?_
      rintro e w10 ⟨rfl, hm, hg⟩
      rw [P1.out]
      have HB10 := Lib.hid (HB9.out.trans (mod_below hm s9 (fun i hi => by have := HGH.out; have := HGL.out; omega)))
      have s10 : w.heap.size ≤ w10.heap.size := HB10.out.size
      clear hm hg HB9 HG9 s9 F9 hp9 c0 c1
      go_wp2_with fail
      refine (awake_any _).mono ?_
      rintro e w11 ⟨rfl, hb⟩
      have HB11 := Lib.hid (HB10.out.trans (hb.mono s10))
      clear hb
      go_wp2_with fail
      go_ret
      exact ⟨rfl, HB11.out⟩
    · have PN := Lib.hid hpn
      clear hpn
      go_wp2_with fail
      refine (Gi.set_any gh gl a b _ s i 5 _ HG1.out).mono ?_
      rintro e w2 ⟨rfl, hm, hg⟩
      rw [PN.out]
      rw [Gi.put_off PN.out] at hg
      have F2 := Lib.hid (F1.out.mod hm n3)
      have HB2 := Lib.hid (HB1.out.trans (mod_below hm s1 (fun i hi => by have := HGH.out; have := HGL.out; omega)))
      have s2 : w.heap.size ≤ w2.heap.size := HB2.out.size
      have HG2 := Lib.hid hg
      have hp2 := F2.out.lt
      have c0 := F2.out.cell 0
      have c1 := F2.out.cell 1
      simp only [List.getElem?_toArray, List.getElem?_cons_zero, List.getElem?_cons_succ] at c0 c1
      clear hm hg HB1 HG1 s1 F1 hp1
      go_wp2_with fail
      refine (Gi.get_any gh gl a b _ s i _ HG2.out).mono ?_
      rintro e w3 ⟨rfl, hb⟩
      rw [Gi.spot_off PN.out, show Gi.valOf none = .int .i64 0 from rfl, Option.isSome_none]
      have F3 := Lib.hid (F2.out.below hb hp2)
      have HB3 := Lib.hid (HB2.out.trans (hb.mono s2))
      have s3 : w.heap.size ≤ w3.heap.size := HB3.out.size
      have HG3 := Lib.hid (HG2.out.below hb HG2.out.1.lt HG2.out.2.1.lt)
      have hp3 := F3.out.lt
      have c0 := F3.out.cell 0
      have c1 := F3.out.cell 1
      simp only [List.getElem?_toArray, List.getElem?_cons_zero, List.getElem?_cons_succ] at c0 c1
      clear hb HB2 HG2 s2 F2 hp2
      go_wp2_with fail
      refine (Gi.len_any gh gl a b _ _ HG3.out).mono ?_
      rintro e w4 ⟨rfl, hw⟩
      obtain rfl : w3 = w4 := hw.symm
      rw [cnt_replicate]
      go_wp2_with fail
      refine (Gi.free_any gh gl a b _ s i _ HG3.out).mono ?_
      rintro e w5 ⟨rfl, hm, hg⟩
      rw [Gi.spot_off PN.out, Option.isSome_none]
      rw [Gi.put_off PN.out] at hg
      have F5 := Lib.hid (F3.out.mod hm n3)
      have HB5 := Lib.hid (HB3.out.trans (mod_below hm s3 (fun i hi => by have := HGH.out; have := HGL.out; omega)))
      have s5 : w.heap.size ≤ w5.heap.size := HB5.out.size
      have HG5 := Lib.hid hg
      have hp5 := F5.out.lt
      have c0 := F5.out.cell 0
      have c1 := F5.out.cell 1
      simp only [List.getElem?_toArray, List.getElem?_cons_zero, List.getElem?_cons_succ] at c0 c1
      clear hm hg HB3 HG3 s3 F3 hp3
      go_wp2_with fail
      have f6 := At.new w5 23 #[.int .i64 ((a : Int) - 1), .int .i64 ((b : Int) - 1)]
      refine (Gi.in_any gh a b _ _ s i _ (HG5.out.alloc _).1).mono ?_
      rintro e w6 ⟨rfl, hb⟩
      rw [PN.out]
      obtain ⟨gq, hgq⟩ : ∃ gq, gq = w5.heap.size := ⟨_, rfl⟩
      have F6 := Lib.hid (f6.below hb (by simp))
      have HB6 := Lib.hid (HB5.out.trans (step_below (a := w5) (by repeat first | exact Below.refl _ _ | refine Below.drew ?_ | refine Below.alloc ?_ (by simp <;> omega) _) hb |>.mono s5))
      have s6 : w.heap.size ≤ w6.heap.size := HB6.out.size
      have HG6 := Lib.hid ((HG5.out.alloc _).below hb (HG5.out.alloc _).1.lt (HG5.out.alloc _).2.1.lt)
      have hp6 := F6.out.lt
      have c0 := F6.out.cell 0
      have c1 := F6.out.cell 1
      simp only [List.getElem?_toArray, List.getElem?_cons_zero, List.getElem?_cons_succ] at c0 c1
      rw [← hgq] at F6 hp6 c0 c1
      rw [← hgq]
      clear hb HB5 HG5 s5 F5 hp5 f6 hgq
      go_wp2_with fail
      refine (Gi.len_any gh gl a b _ _ HG6.out).mono ?_
      rintro e w7 ⟨rfl, hw⟩
      obtain rfl : w6 = w7 := hw.symm
      rw [cnt_replicate]
      go_wp2_with fail
      refine (Gi.in_any gh a b _ _ _ _ _ HG6.out.1).mono ?_
      rintro e w7 ⟨rfl, hb⟩
      rw [P1.out]
      have F7 := Lib.hid (F6.out.below hb hp6)
      have HB7 := Lib.hid (HB6.out.trans (hb.mono s6))
      have s7 : w.heap.size ≤ w7.heap.size := HB7.out.size
      have HG7 := Lib.hid (HG6.out.below hb HG6.out.1.lt HG6.out.2.1.lt)
      have hp7 := F7.out.lt
      have c0 := F7.out.cell 0
      have c1 := F7.out.cell 1
      simp only [List.getElem?_toArray, List.getElem?_cons_zero, List.getElem?_cons_succ] at c0 c1
      clear hb HB6 HG6 s6 F6 hp6
      go_wp2_with fail
      refine (Gi.in_any gh a b _ _ _ _ _ HG7.out.1).mono ?_
      rintro e w8 ⟨rfl, hb⟩
      rw [P2.out]
      have F8 := Lib.hid (F7.out.below hb hp7)
      have HB8 := Lib.hid (HB7.out.trans (hb.mono s7))
      have s8 : w.heap.size ≤ w8.heap.size := HB8.out.size
      have HG8 := Lib.hid (HG7.out.below hb HG7.out.1.lt HG7.out.2.1.lt)
      have hp8 := F8.out.lt
      have c0 := F8.out.cell 0
      have c1 := F8.out.cell 1
      simp only [List.getElem?_toArray, List.getElem?_cons_zero, List.getElem?_cons_succ] at c0 c1
      clear hb HB7 HG7 s7 F7 hp7
      go_wp2_with fail
      refine (Gi.in_any gh a b _ _ _ _ _ HG8.out.1).mono ?_
      rintro e w9 ⟨rfl, hb⟩
      rw [P3.out]
      have F9 := Lib.hid (F8.out.below hb hp8)
      have HB9 := Lib.hid (HB8.out.trans (hb.mono s8))
      have s9 : w.heap.size ≤ w9.heap.size := HB9.out.size
      have HG9 := Lib.hid (HG8.out.below hb HG8.out.1.lt HG8.out.2.1.lt)
      have hp9 := F9.out.lt
      have c0 := F9.out.cell 0
      have c1 := F9.out.cell 1
      simp only [List.getElem?_toArray, List.getElem?_cons_zero, List.getElem?_cons_succ] at c0 c1
      clear hb HB8 HG8 s8 F8 hp8
      go_wp2_with fail
      refine (Gi.set_any gh gl a b _ _ _ 1 _ HG9.out).mono ?_
      rintro e w10 ⟨rfl, hm, hg⟩
      rw [P1.out]
      have HB10 := Lib.hid (HB9.out.trans (mod_below hm s9 (fun i hi => by have := HGH.out; have := HGL.out; omega)))
      have s10 : w.heap.size ≤ w10.heap.size := HB10.out.size
      clear hm hg HB9 HG9 s9 F9 hp9 c0 c1
      go_wp2_with fail
      refine (awake_any _).mono ?_
      rintro e w11 ⟨rfl, hb⟩
      have HB11 := Lib.hid (HB10.out.trans (hb.mono s10))
      clear hb
      go_wp2_with fail
      go_ret
      exact ⟨rfl, HB11.out⟩
    · have PN := Lib.hid hpn
      clear hpn
      go_wp2_with fail
      refine (Gi.set_any gh gl a b _ s i 5 _ HG1.out).mono ?_
      rintro e w2 ⟨rfl, hm, hg⟩
      rw [PN.out]
      rw [Gi.put_off PN.out] at hg
      have F2 := Lib.hid (F1.out.mod hm n3)
      have HB2 := Lib.hid (HB1.out.trans (mod_below hm s1 (fun i hi => by have := HGH.out; have := HGL.out; omega)))
      have s2 : w.heap.size ≤ w2.heap.size := HB2.out.size
      have HG2 := Lib.hid hg
      have hp2 := F2.out.lt
      have c0 := F2.out.cell 0
      have c1 := F2.out.cell 1
      simp only [List.getElem?_toArray, List.getElem?_cons_zero, List.getElem?_cons_succ] at c0 c1
      clear hm hg HB1 HG1 s1 F1 hp1
      go_wp2_with fail
      refine (Gi.get_any gh gl a b _ s i _ HG2.out).mono ?_
      rintro e w3 ⟨rfl, hb⟩
      rw [Gi.spot_off PN.out, show Gi.valOf none = .int .i64 0 from rfl, Option.isSome_none]
      have F3 := Lib.hid (F2.out.below hb hp2)
      have HB3 := Lib.hid (HB2.out.trans (hb.mono s2))
      have s3 : w.heap.size ≤ w3.heap.size := HB3.out.size
      have HG3 := Lib.hid (HG2.out.below hb HG2.out.1.lt HG2.out.2.1.lt)
      have hp3 := F3.out.lt
      have c0 := F3.out.cell 0
      have c1 := F3.out.cell 1
      simp only [List.getElem?_toArray, List.getElem?_cons_zero, List.getElem?_cons_succ] at c0 c1
      clear hb HB2 HG2 s2 F2 hp2
      go_wp2_with fail
      refine (Gi.len_any gh gl a b _ _ HG3.out).mono ?_
      rintro e w4 ⟨rfl, hw⟩
      obtain rfl : w3 = w4 := hw.symm
      rw [cnt_replicate]
      go_wp2_with fail
      refine (Gi.free_any gh gl a b _ s i _ HG3.out).mono ?_
      rintro e w5 ⟨rfl, hm, hg⟩
      rw [Gi.spot_off PN.out, Option.isSome_none]
      rw [Gi.put_off PN.out] at hg
      have F5 := Lib.hid (F3.out.mod hm n3)
      have HB5 := Lib.hid (HB3.out.trans (mod_below hm s3 (fun i hi => by have := HGH.out; have := HGL.out; omega)))
      have s5 : w.heap.size ≤ w5.heap.size := HB5.out.size
      have HG5 := Lib.hid hg
      have hp5 := F5.out.lt
      have c0 := F5.out.cell 0
      have c1 := F5.out.cell 1
      simp only [List.getElem?_toArray, List.getElem?_cons_zero, List.getElem?_cons_succ] at c0 c1
      clear hm hg HB3 HG3 s3 F3 hp3
      go_wp2_with fail
      have f6 := At.new w5 23 #[.int .i64 ((a : Int) - 1), .int .i64 ((b : Int) - 1)]
      refine (Gi.in_any gh a b _ _ s i _ (HG5.out.alloc _).1).mono ?_
      rintro e w6 ⟨rfl, hb⟩
      rw [PN.out]
      obtain ⟨gq, hgq⟩ : ∃ gq, gq = w5.heap.size := ⟨_, rfl⟩
      have F6 := Lib.hid (f6.below hb (by simp))
      have HB6 := Lib.hid (HB5.out.trans (step_below (a := w5) (by repeat first | exact Below.refl _ _ | refine Below.drew ?_ | refine Below.alloc ?_ (by simp <;> omega) _) hb |>.mono s5))
      have s6 : w.heap.size ≤ w6.heap.size := HB6.out.size
      have HG6 := Lib.hid ((HG5.out.alloc _).below hb (HG5.out.alloc _).1.lt (HG5.out.alloc _).2.1.lt)
      have hp6 := F6.out.lt
      have c0 := F6.out.cell 0
      have c1 := F6.out.cell 1
      simp only [List.getElem?_toArray, List.getElem?_cons_zero, List.getElem?_cons_succ] at c0 c1
      rw [← hgq] at F6 hp6 c0 c1
      rw [← hgq]
      clear hb HB5 HG5 s5 F5 hp5 f6 hgq
      go_wp2_with fail
      refine (Gi.len_any gh gl a b _ _ HG6.out).mono ?_
      rintro e w7 ⟨rfl, hw⟩
      obtain rfl : w6 = w7 := hw.symm
      rw [cnt_replicate]
      go_wp2_with fail
      refine (Gi.in_any gh a b _ _ _ _ _ HG6.out.1).mono ?_
      rintro e w7 ⟨rfl, hb⟩
      rw [P1.out]
      have F7 := Lib.hid (F6.out.below hb hp6)
      have HB7 := Lib.hid (HB6.out.trans (hb.mono s6))
      have s7 : w.heap.size ≤ w7.heap.size := HB7.out.size
      have HG7 := Lib.hid (HG6.out.below hb HG6.out.1.lt HG6.out.2.1.lt)
      have hp7 := F7.out.lt
      have c0 := F7.out.cell 0
      have c1 := F7.out.cell 1
      simp only [List.getElem?_toArray, List.getElem?_cons_zero, List.getElem?_cons_succ] at c0 c1
      clear hb HB6 HG6 s6 F6 hp6
      go_wp2_with fail
      refine (Gi.in_any gh a b _ _ _ _ _ HG7.out.1).mono ?_
      rintro e w8 ⟨rfl, hb⟩
      rw [P2.out]
      have F8 := Lib.hid (F7.out.below hb hp7)
      have HB8 := Lib.hid (HB7.out.trans (hb.mono s7))
      have s8 : w.heap.size ≤ w8.heap.size := HB8.out.size
      have HG8 := Lib.hid (HG7.out.below hb HG7.out.1.lt HG7.out.2.1.lt)
      have hp8 := F8.out.lt
      have c0 := F8.out.cell 0
      have c1 := F8.out.cell 1
      simp only [List.getElem?_toArray, List.getElem?_cons_zero, List.getElem?_cons_succ] at c0 c1
      clear hb HB7 HG7 s7 F7 hp7
      go_wp2_with fail
      refine (Gi.in_any gh a b _ _ _ _ _ HG8.out.1).mono ?_
      rintro e w9 ⟨rfl, hb⟩
      rw [P3.out]
      have F9 := Lib.hid (F8.out.below hb hp8)
      have HB9 := Lib.hid (HB8.out.trans (hb.mono s8))
      have s9 : w.heap.size ≤ w9.heap.size := HB9.out.size
      have HG9 := Lib.hid (HG8.out.below hb HG8.out.1.lt HG8.out.2.1.lt)
      have hp9 := F9.out.lt
      have c0 := F9.out.cell 0
      have c1 := F9.out.cell 1
      simp only [List.getElem?_toArray, List.getElem?_cons_zero, List.getElem?_cons_succ] at c0 c1
      clear hb HB8 HG8 s8 F8 hp8
      go_wp2_with fail
      refine (Gi.set_any gh gl a b _ _ _ 1 _ HG9.out).mono ?_
      rintro e w10 ⟨rfl, hm, hg⟩
      rw [P1.out]
      have HB10 := Lib.hid (HB9.out.trans (mod_below hm s9 (fun i hi => by have := HGH.out; have := HGL.out; omega)))
      have s10 : w.heap.size ≤ w10.heap.size := HB10.out.size
      clear hm hg HB9 HG9 s9 F9 hp9 c0 c1
      go_wp2_with fail
      refine (awake_any _).mono ?_
      rintro e w11 ⟨rfl, hb⟩
      have HB11 := Lib.hid (HB10.out.trans (hb.mono s10))
      clear hb
      go_wp2_with fail
      go_ret
      exact ⟨rfl, HB11.out⟩
    · have PN := Lib.hid hpn
      clear hpn
      go_wp2_with fail
      refine (Gi.set_any gh gl a b _ s i 5 _ HG1.out).mono ?_
      rintro e w2 ⟨rfl, hm, hg⟩
      rw [PN.out]
      have hq := Gi.spot_put (o := some 5) PN.out HG1.out.2.2.1
      have hc := Gi.cnt_new PN.out HG1.out.2.2.1 5 (Gi.spot_none _)
      rw [cnt_replicate] at hc
      have HQ := Lib.hid hq
      have HC := Lib.hid hc
      clear hq hc
      generalize Gi.put a b s i (List.replicate (a * b) none) (some 5) = l1 at *
      have F2 := Lib.hid (F1.out.mod hm n3)
      have HB2 := Lib.hid (HB1.out.trans (mod_below hm s1 (fun i hi => by have := HGH.out; have := HGL.out; omega)))
      have s2 : w.heap.size ≤ w2.heap.size := HB2.out.size
      have HG2 := Lib.hid hg
      have hp2 := F2.out.lt
      have c0 := F2.out.cell 0
      have c1 := F2.out.cell 1
      simp only [List.getElem?_toArray, List.getElem?_cons_zero, List.getElem?_cons_succ] at c0 c1
      clear hm hg HB1 HG1 s1 F1 hp1
      go_wp2_with fail
      refine (Gi.get_any gh gl a b _ s i _ HG2.out).mono ?_
      rintro e w3 ⟨rfl, hb⟩
      rw [HQ.out, show Gi.valOf (some 5) = .int .i64 5 from rfl, Option.isSome_some]
      have F3 := Lib.hid (F2.out.below hb hp2)
      have HB3 := Lib.hid (HB2.out.trans (hb.mono s2))
      have s3 : w.heap.size ≤ w3.heap.size := HB3.out.size
      have HG3 := Lib.hid (HG2.out.below hb HG2.out.1.lt HG2.out.2.1.lt)
      have hp3 := F3.out.lt
      have c0 := F3.out.cell 0
      have c1 := F3.out.cell 1
      simp only [List.getElem?_toArray, List.getElem?_cons_zero, List.getElem?_cons_succ] at c0 c1
      clear hb HB2 HG2 s2 F2 hp2
      go_wp2_with fail
      refine (Gi.len_any gh gl a b _ _ HG3.out).mono ?_
      rintro e w4 ⟨rfl, hw⟩
      obtain rfl : w3 = w4 := hw.symm
      rw [HC.out]
      go_wp2_with fail
      refine (Gi.free_any gh gl a b _ s i _ HG3.out).mono ?_
      rintro e w5 ⟨rfl, hm, hg⟩
      rw [HQ.out, Option.isSome_some]
      have hc := Gi.cnt_gone PN.out 5 HQ.out
      have HC2 := Lib.hid (show cnt (Gi.put a b s i l1 none) = 0 by have := HC.out; omega)
      clear hc
      generalize Gi.put a b s i l1 none = l2 at *
      have F5 := Lib.hid (F3.out.mod hm n3)
      have HB5 := Lib.hid (HB3.out.trans (mod_below hm s3 (fun i hi => by have := HGH.out; have := HGL.out; omega)))
      have s5 : w.heap.size ≤ w5.heap.size := HB5.out.size
      have HG5 := Lib.hid hg
      have hp5 := F5.out.lt
      have c0 := F5.out.cell 0
      have c1 := F5.out.cell 1
      simp only [List.getElem?_toArray, List.getElem?_cons_zero, List.getElem?_cons_succ] at c0 c1
      clear hm hg HB3 HG3 s3 F3 hp3
      go_wp2_with fail
      have f6 := At.new w5 23 #[.int .i64 ((a : Int) - 1), .int .i64 ((b : Int) - 1)]
      refine (Gi.in_any gh a b _ _ s i _ (HG5.out.alloc _).1).mono ?_
      rintro e w6 ⟨rfl, hb⟩
      rw [PN.out]
      obtain ⟨gq, hgq⟩ : ∃ gq, gq = w5.heap.size := ⟨_, rfl⟩
      have F6 := Lib.hid (f6.below hb (by simp))
      have HB6 := Lib.hid (HB5.out.trans (step_below (a := w5) (by repeat first | exact Below.refl _ _ | refine Below.drew ?_ | refine Below.alloc ?_ (by simp <;> omega) _) hb |>.mono s5))
      have s6 : w.heap.size ≤ w6.heap.size := HB6.out.size
      have HG6 := Lib.hid ((HG5.out.alloc _).below hb (HG5.out.alloc _).1.lt (HG5.out.alloc _).2.1.lt)
      have hp6 := F6.out.lt
      have c0 := F6.out.cell 0
      have c1 := F6.out.cell 1
      simp only [List.getElem?_toArray, List.getElem?_cons_zero, List.getElem?_cons_succ] at c0 c1
      rw [← hgq] at F6 hp6 c0 c1
      rw [← hgq]
      clear hb HB5 HG5 s5 F5 hp5 f6 hgq
      go_wp2_with fail
      refine (Gi.len_any gh gl a b _ _ HG6.out).mono ?_
      rintro e w7 ⟨rfl, hw⟩
      obtain rfl : w6 = w7 := hw.symm
      rw [HC2.out]
      go_wp2_with fail
      refine (Gi.in_any gh a b _ _ _ _ _ HG6.out.1).mono ?_
      rintro e w7 ⟨rfl, hb⟩
      rw [P1.out]
      have F7 := Lib.hid (F6.out.below hb hp6)
      have HB7 := Lib.hid (HB6.out.trans (hb.mono s6))
      have s7 : w.heap.size ≤ w7.heap.size := HB7.out.size
      have HG7 := Lib.hid (HG6.out.below hb HG6.out.1.lt HG6.out.2.1.lt)
      have hp7 := F7.out.lt
      have c0 := F7.out.cell 0
      have c1 := F7.out.cell 1
      simp only [List.getElem?_toArray, List.getElem?_cons_zero, List.getElem?_cons_succ] at c0 c1
      clear hb HB6 HG6 s6 F6 hp6
      go_wp2_with fail
      refine (Gi.in_any gh a b _ _ _ _ _ HG7.out.1).mono ?_
      rintro e w8 ⟨rfl, hb⟩
      rw [P2.out]
      have F8 := Lib.hid (F7.out.below hb hp7)
      have HB8 := Lib.hid (HB7.out.trans (hb.mono s7))
      have s8 : w.heap.size ≤ w8.heap.size := HB8.out.size
      have HG8 := Lib.hid (HG7.out.below hb HG7.out.1.lt HG7.out.2.1.lt)
      have hp8 := F8.out.lt
      have c0 := F8.out.cell 0
      have c1 := F8.out.cell 1
      simp only [List.getElem?_toArray, List.getElem?_cons_zero, List.getElem?_cons_succ] at c0 c1
      clear hb HB7 HG7 s7 F7 hp7
      go_wp2_with fail
      refine (Gi.in_any gh a b _ _ _ _ _ HG8.out.1).mono ?_
      rintro e w9 ⟨rfl, hb⟩
      rw [P3.out]
      have F9 := Lib.hid (F8.out.below hb hp8)
      have HB9 := Lib.hid (HB8.out.trans (hb.mono s8))
      have s9 : w.heap.size ≤ w9.heap.size := HB9.out.size
      have HG9 := Lib.hid (HG8.out.below hb HG8.out.1.lt HG8.out.2.1.lt)
      have hp9 := F9.out.lt
      have c0 := F9.out.cell 0
      have c1 := F9.out.cell 1
      simp only [List.getElem?_toArray, List.getElem?_cons_zero, List.getElem?_cons_succ] at c0 c1
      clear hb HB8 HG8 s8 F8 hp8
      go_wp2_with fail
      refine (Gi.set_any gh gl a b _ _ _ 1 _ HG9.out).mono ?_
      rintro e w10 ⟨rfl, hm, hg⟩
      rw [P1.out]
      have HB10 := Lib.hid (HB9.out.trans (mod_below hm s9 (fun i hi => by have := HGH.out; have := HGL.out; omega)))
      have s10 : w.heap.size ≤ w10.heap.size := HB10.out.size
      clear hm hg HB9 HG9 s9 F9 hp9 c0 c1
      go_wp2_with fail
      refine (awake_any _).mono ?_
      rintro e w11 ⟨rfl, hb⟩
      have HB11 := Lib.hid (HB10.out.trans (hb.mono s10))
      clear hb
      go_wp2_with fail
      go_ret
      exact ⟨rfl, HB11.out⟩
  · have HB := Lib.hid hb
    have hcase : st < 1 ∨ (decide (st < 1) = false ∧ 4 < st) ∨ (decide (st < 1) = false ∧ decide (4 < st) = false ∧ sz < 1) ∨ (decide (st < 1) = false ∧ decide (4 < st) = false ∧ decide (sz < 1) = false ∧ 1024 < sz) := by
      simp only [decide_eq_false_iff_not]; omega
    clear hb
    rcases hcase with c1 | ⟨c1, c2⟩ | ⟨c1, c2, c3⟩ | ⟨c1, c2, c3, c4⟩ <;>
    · go_enter Try.func3, Try.ntmps3
      go_wp2_with fail
      refine (awake_any _).mono ?_
      rintro e w1 ⟨rfl, hb⟩
      have HB1 := Lib.hid (step_below (a := w) (by repeat first | exact Below.refl _ _ | refine Below.drew ?_ | refine Below.alloc ?_ (by simp <;> omega) _) hb)
      clear hb
      go_wp2_with fail
      go_ret
      exact ⟨rfl, HB1.out⟩
end Go.Proofs.Ytjlgkljifpjehaa
