/-
  The grid's methods, one contract each, for each type that a grid is made of.
-/
import Derived.Test.YtjlgkljifpjehaaGridNew
import Derived.WalkSpells
import Derived.WalkLawsBesides
import Derived.Lib.Hide
import Derived.Laws.MakeOwn
import Derived.OwnWalk
namespace Go.Proofs.Ytjlgkljifpjehaa
open Go.RowKit
theorem mod_below {M : Nat → Prop} {a b : World} {B : Nat} (h : Mod M a b) (hB : B ≤ a.heap.size) (hm : ∀ i, M i → B ≤ i) : Below B a b :=
  ⟨h.os, h.tape, h.output, h.size, fun i hi => h.block i (by omega) (fun x => by have := hm i x; omega)⟩
set_option maxHeartbeats 4000000 in
theorem awake_any (w : World) : Calls Try.prog 11 #[] w fun e w' => e = .returned (.bool true) ∧ Below w.heap.size w w' := by
  go_enter Try.func11, Try.ntmps11
  go_wp2_with fail
  refine (Gs.new_ok 2 3 (by omega) (by omega) (by omega) (by omega) w).mono ?_
  rintro e w1 ⟨rfl, hg, hb⟩
  have s1 := hb.size
  have HG1 := Lib.hid hg
  have HB1 := Lib.hid hb
  have l1 := hg.1.lt
  clear hg hb
  obtain ⟨gh, hgh⟩ : ∃ gh, gh = w.heap.size + 1 := ⟨_, rfl⟩
  obtain ⟨gl, hgl⟩ : ∃ gl, gl = w.heap.size := ⟨_, rfl⟩
  have HGH := Lib.hid (show w.heap.size ≤ gh by omega)
  have HGL := Lib.hid (show w.heap.size ≤ gl by omega)
  rw [← hgh, ← hgl] at HG1
  rw [← hgh] at l1
  rw [← hgh]
  clear hgh hgl
  go_wp2_with fail
  refine (Gi.new_no 5 3 (by omega) w1).mono ?_
  rintro e w2 ⟨rfl, hb⟩
  have HB2 := Lib.hid (HB1.out.trans (hb.mono s1))
  have HG2 := Lib.hid (HG1.out.below hb HG1.out.1.lt HG1.out.2.1.lt)
  have s2 := Nat.le_trans s1 hb.size
  clear hb HB1 HG1 l1 s1
  go_wp2_with fail
  have f3 := At.new w2 23 #[.int .i64 1, .int .i64 2]
  refine (Gs.set_any gh gl 2 3 _ 1 2 _ _ (HG2.out.alloc _)).mono ?_
  rintro e w3 ⟨rfl, hm, hg⟩
  rw [show pin 2 3 1 2 = true by decide]
  obtain ⟨gp, hgp⟩ : ∃ gp, gp = w2.heap.size := ⟨_, rfl⟩
  rw [← hgp] at f3
  rw [← hgp]
  have HGP := Lib.hid (show w.heap.size ≤ gp by omega)
  have n1 : gp ≠ gh := by have := HG2.out.1.lt; omega
  have n2 : gp ≠ gl := by have := HG2.out.2.1.lt; omega
  have F3 := Lib.hid (f3.mod hm (by omega))
  have HB3 := Lib.hid ((HB2.out.alloc s2 _).trans (mod_below hm (by simp; omega) (fun i hi => by have := HGH.out; have := HGL.out; omega)))
  have s3 : w.heap.size ≤ w3.heap.size := HB3.out.size
  have HG3 := Lib.hid hg
  have hp3 := F3.out.lt
  have c0 := F3.out.cell 0
  have c1 := F3.out.cell 1
  simp only [List.getElem?_toArray, List.getElem?_cons_zero, List.getElem?_cons_succ] at c0 c1
  clear hg hm f3 HB2 HG2 hgp s2
  go_wp2_with fail
  refine (Gs.set_any gh gl 2 3 _ 2 0 _ _ HG3.out).mono ?_
  rintro e w4 ⟨rfl, hm, hg⟩
  have hput : ∀ l y, Gs.put 2 3 2 0 l (some y) = l := fun l y => rfl
  rw [hput] at hg
  rw [show pin 2 3 2 0 = false by decide]
  have F4 := Lib.hid (F3.out.mod hm (by omega))
  have HB4 := Lib.hid (HB3.out.trans (mod_below hm s3 (fun i hi => by have := HGH.out; have := HGL.out; omega)))
  have s4 : w.heap.size ≤ w4.heap.size := HB4.out.size
  have HG4 := Lib.hid hg
  have hp4 := F4.out.lt
  have c0 := F4.out.cell 0
  have c1 := F4.out.cell 1
  simp only [List.getElem?_toArray, List.getElem?_cons_zero, List.getElem?_cons_succ] at c0 c1
  clear hg hm HB3 HG3 s3 F3 hp3
  go_wp2_with fail
  refine (Gs.get_any gh gl 2 3 _ 1 2 _ HG4.out).mono ?_
  rintro e w5 ⟨rfl, hb⟩
  rw [show Gs.spot 2 3 1 2 (Gs.put 2 3 1 2 (List.replicate (2 * 3) none) (some ⟨#[120]⟩)) = some ⟨#[120]⟩ from rfl, show Gs.valOf (some ⟨#[120]⟩) = .string ⟨#[120]⟩ from rfl, Option.isSome_some]
  have F5 := Lib.hid (F4.out.below hb hp4)
  have HB5 := Lib.hid (HB4.out.trans (hb.mono s4))
  have s5 : w.heap.size ≤ w5.heap.size := HB5.out.size
  have HG5 := Lib.hid (HG4.out.below hb HG4.out.1.lt HG4.out.2.1.lt)
  have hp5 := F5.out.lt
  have c0 := F5.out.cell 0
  have c1 := F5.out.cell 1
  simp only [List.getElem?_toArray, List.getElem?_cons_zero, List.getElem?_cons_succ] at c0 c1
  clear hb HB4 HG4 s4 F4 hp4
  go_wp2_with fail
  refine region_sq (fun i => i = gh ∨ i = gl) [(0, true), (1, true), (3, true), (4, true), (2, false), (5, false), (6, true), (7, true)] (by kernel_rfl) (by kernel_rfl) (fun _ _ d _ _ h => by cases d <;> exact h) ?_
  have n3 : ¬ (gp = gh ∨ gp = gl) := fun x => x.elim n1 n2
  repeat (first
      | (refine sq_yes rfl (by rfl) (fun w' hM => by ((try replace hM := hM.of_drew); obtain ⟨hR1, hR2, hR3⟩ := hM.rules; clear hM; go_simp; with_reducible rfl)) ?_; simp only [Act.put, List.setIfInBounds_toArray, List.set_cons_zero, List.set_cons_succ])
      | (refine sq_no rfl (by rfl) ?_; simp only [Act.put, List.setIfInBounds_toArray, List.set_cons_zero, List.set_cons_succ]))
  refine sq_do_yes rfl (by rfl) (fun K hK => ?_)
  go_wp2_with fail
  refine (Gs.free_any gh gl 2 3 _ 1 2 _ HG5.out.drew).mono ?_
  rintro e w6 ⟨rfl, hm, hg⟩
  rw [show (Gs.spot 2 3 1 2 (Gs.put 2 3 1 2 (List.replicate (2 * 3) none) (some ⟨#[120]⟩))).isSome = true from rfl]
  have HM6 := Lib.hid hm
  have HG6 := Lib.hid hg
  clear hm hg
  go_wp2_with fail
  refine ⟨HM6.out, ?_⟩
  refine sq_do_yes rfl (by rfl) (fun K2 hK2 => ?_)
  go_wp2_with fail
  refine (Gs.free_any gh gl 2 3 _ 1 2 _ HG6.out).mono ?_
  rintro e w7 ⟨rfl, hm, hg⟩
  rw [show (Gs.spot 2 3 1 2 (Gs.put 2 3 1 2 (Gs.put 2 3 1 2 (List.replicate (2 * 3) none) (some ⟨#[120]⟩)) none)).isSome = false from rfl]
  have HM7 := Lib.hid hm
  have HG7 := Lib.hid hg
  clear hm hg
  go_wp2_with fail
  refine ⟨HM7.out, ?_⟩
  repeat (first
      | (refine sq_yes rfl (by rfl) (fun w' hM => by ((try replace hM := hM.of_drew); obtain ⟨hR1, hR2, hR3⟩ := hM.rules; clear hM; go_simp; with_reducible rfl)) ?_; simp only [Act.put, List.setIfInBounds_toArray, List.set_cons_zero, List.set_cons_succ])
      | (refine sq_no rfl (by rfl) ?_; simp only [Act.put, List.setIfInBounds_toArray, List.set_cons_zero, List.set_cons_succ]))
  refine sq_end ?_
  have F7 := Lib.hid ((F5.out.drew.mod HM6.out n3).mod HM7.out n3)
  have HB7 := Lib.hid ((HB5.out.drew.trans (mod_below HM6.out s5 (fun i hi => by have := HGH.out; have := HGL.out; omega))).trans (mod_below HM7.out (Nat.le_trans s5 HM6.out.size) (fun i hi => by have := HGH.out; have := HGL.out; omega)))
  have s7 : w.heap.size ≤ w7.heap.size := HB7.out.size
  have hp7 := F7.out.lt
  have c0 := F7.out.cell 0
  have c1 := F7.out.cell 1
  simp only [List.getElem?_toArray, List.getElem?_cons_zero, List.getElem?_cons_succ] at c0 c1
  clear HB5 HG5 s5 F5 hp5 HM6 HM7 HG6
  go_wp2_with fail
  refine (Gs.len_any gh gl 2 3 _ _ HG7.out).mono ?_
  rintro e w8 ⟨rfl, rfl⟩
  rw [show cnt (Gs.put 2 3 1 2 (Gs.put 2 3 1 2 (Gs.put 2 3 1 2 (List.replicate (2 * 3) none) (some ⟨#[120]⟩)) none) none) = 0 from rfl]
  go_wp2_with fail
  refine (Gs.in_any gh 2 3 _ _ 1 2 _ HG7.out.1).mono ?_
  rintro e w9 ⟨rfl, hb⟩
  rw [show pin 2 3 1 2 = true by decide]
  have F9 := Lib.hid (F7.out.below hb hp7)
  have HB9 := Lib.hid (HB7.out.trans (hb.mono s7))
  have s9 : w.heap.size ≤ w9.heap.size := HB9.out.size
  have HG9 := Lib.hid (HG7.out.below hb HG7.out.1.lt HG7.out.2.1.lt)
  have hp9 := F9.out.lt
  have c0 := F9.out.cell 0
  have c1 := F9.out.cell 1
  simp only [List.getElem?_toArray, List.getElem?_cons_zero, List.getElem?_cons_succ] at c0 c1
  clear hb HB7 HG7 s7 F7 hp7
  go_wp2_with fail
  refine (Gs.in_any gh 2 3 _ _ 0 3 _ HG9.out.1).mono ?_
  rintro e w10 ⟨rfl, hb⟩
  rw [show pin 2 3 0 3 = false by decide]
  have F10 := Lib.hid (F9.out.below hb hp9)
  have HB10 := Lib.hid (HB9.out.trans (hb.mono s9))
  have s10 : w.heap.size ≤ w10.heap.size := HB10.out.size
  have HG10 := Lib.hid (HG9.out.below hb HG9.out.1.lt HG9.out.2.1.lt)
  have hp10 := F10.out.lt
  have c0 := F10.out.cell 0
  have c1 := F10.out.cell 1
  simp only [List.getElem?_toArray, List.getElem?_cons_zero, List.getElem?_cons_succ] at c0 c1
  clear hb HB9 HG9 s9 F9 hp9
  go_wp2_with fail
  refine (Gs.nil_in 1 2 _).mono ?_
  rintro e w11 ⟨rfl, hb⟩
  have F11 := Lib.hid (F10.out.below hb hp10)
  have HB11 := Lib.hid (HB10.out.trans (hb.mono s10))
  have s11 : w.heap.size ≤ w11.heap.size := HB11.out.size
  have HG11 := Lib.hid (HG10.out.below hb HG10.out.1.lt HG10.out.2.1.lt)
  have hp11 := F11.out.lt
  have c0 := F11.out.cell 0
  have c1 := F11.out.cell 1
  simp only [List.getElem?_toArray, List.getElem?_cons_zero, List.getElem?_cons_succ] at c0 c1
  clear hb HB10 HG10 s10 F10 hp10
  go_wp2_with fail
  refine (Gs.nil_len _).mono ?_
  rintro e w12 ⟨rfl, rfl⟩
  go_wp2_with fail
  refine (Gs.nil_set 1 2 _ _).mono ?_
  rintro e w13 ⟨rfl, hb⟩
  have HB13 := Lib.hid (HB11.out.trans (hb.mono s11))
  clear hb HB11 HG11 s11 F11 hp11
  go_wp2_with fail
  go_ret
  exact ⟨rfl, HB13.out⟩
end Go.Proofs.Ytjlgkljifpjehaa
