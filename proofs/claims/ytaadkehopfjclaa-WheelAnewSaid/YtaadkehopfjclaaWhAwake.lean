/-
  The wheel's methods, one contract each, for keys that are ints and keys that are strings.
-/
import Derived.Test.YtaadkehopfjclaaWhAll
import Derived.WalkSpells
import Derived.WalkLawsBesides
import Derived.Lib.Hide
import Derived.Laws.MakeOwn
import Derived.OwnWalk
import Derived.Shelf.Abstract
namespace Go.Proofs.Ytaadkehopfjclaa
open Go.RowKit Go.MapKept Go.Shelf
set_option maxRecDepth 100000 in
set_option maxHeartbeats 4000000 in
theorem awake_any (w : World) : Calls Try.prog 6 #[] w fun e w' => e = .returned (.bool true) ∧ Below w.heap.size w w' := by
  go_enter Try.func6, Try.ntmps6
  go_wp2_with fail
  refine (Wi.new_wx 2 (by omega) (by omega) w).mono ?_
  rintro e w1 ⟨hb1, p, F1, rfl, h1⟩
  have HB := Lib.hid hb1
  have H1 := Lib.hid h1
  clear hb1 h1
  go_wp2_with fail
  refine (Ws.new_no 0 (by omega) w1).mono ?_
  rintro e w2 ⟨rfl, hb2⟩
  replace HB := Lib.hid (HB.out.trans (hb2.mono HB.out.size))
  replace H1 := Lib.hid (H1.out.below hb2)
  clear hb2
  go_wp2_with fail
  refine (Wi.set_wx 7 3 H1.out (by omega) (by omega) (by omega) (by simp)).mono ?_
  rintro e w3 ⟨rfl, ⟨F3, h3, -⟩, hm3⟩
  replace HB := Lib.hid (HB.out.trans (mod_below hm3 HB.out.size (fun g hg => (H1.out.fb g hg).1)))
  have H3 := Lib.hid (show Wi.Wx w3 _ F3 p 2 [⟨7, 3, 1⟩] 0 1 from h3)
  clear h3 hm3 H1
  go_wp2_with fail
  refine (Wi.set_wx 8 3 H3.out (by omega) (by omega) (by omega) (by simp)).mono ?_
  rintro e w4 ⟨rfl, ⟨F4, h4, -⟩, hm4⟩
  replace HB := Lib.hid (HB.out.trans (mod_below hm4 HB.out.size (fun g hg => (H3.out.fb g hg).1)))
  have H4 := Lib.hid (show Wi.Wx w4 _ F4 p 2 [⟨7, 3, 1⟩, ⟨8, 3, 2⟩] 0 2 from h4)
  clear h4 hm4 H3
  go_wp2_with fail
  refine (Wi.set_bad 9 0 H4.out (by omega)).mono ?_
  rintro e w5 ⟨rfl, rfl⟩
  go_wp2_with fail
  refine (Wi.set_wx 7 2 H4.out (by omega) (by omega) (by omega) (by simp)).mono ?_
  rintro e w6 ⟨rfl, ⟨F6, h6, -⟩, hm6⟩
  replace HB := Lib.hid (HB.out.trans (mod_below hm6 HB.out.size (fun g hg => (H4.out.fb g hg).1)))
  have H6 := Lib.hid (show Wi.Wx w6 _ F6 p 2 [⟨8, 3, 2⟩, ⟨7, 2, 3⟩] 0 3 from h6)
  clear h6 hm6 H4
  go_wp2_with fail
  refine (Wi.tick_wx H6.out (by omega) (by simp)).mono ?_
  rintro e w7 ⟨⟨F7, x, rfl, h7, hg7, hx⟩, hm7⟩
  replace HB := Lib.hid (HB.out.trans (mod_below hm7 HB.out.size (fun g hg => (H6.out.fb g hg).1)))
  have H7 := Lib.hid (show Wi.Wx w7 _ F7 p 2 [⟨8, 3, 2⟩, ⟨7, 2, 3⟩] 1 3 from h7)
  have HX := Lib.hid (show Wi.Rs w7 F7 _ x [] from hx)
  obtain ⟨ax, cx, rfl⟩ := hx.1.form
  clear h7 hm7 H6 hg7 hx
  go_wp2_with fail
  refine (Wi.tick_wx H7.out (by omega) (by simp)).mono ?_
  rintro e w8 ⟨⟨F8, y, rfl, h8, hg8, hy⟩, hm8⟩
  replace HB := Lib.hid (HB.out.trans (mod_below hm8 HB.out.size (fun g hg => (H7.out.fb g hg).1)))
  have H8 := Lib.hid (show Wi.Wx w8 _ F8 p 2 [⟨8, 3, 2⟩] 2 3 from h8)
  have HY := Lib.hid (show Wi.Rs w8 F8 _ y [7] from hy)
  clear h8 hm8 H7 hg8 hy HX
  go_wp2_with fail
  refine (Wi.tick_wx H8.out (by omega) (by simp)).mono ?_
  rintro e w9 ⟨⟨F9, z, rfl, h9, hg9, hz⟩, hm9⟩
  replace HB := Lib.hid (HB.out.trans (mod_below hm9 HB.out.size (fun g hg => (H8.out.fb g hg).1)))
  have H9 := Lib.hid (show Wi.Wx w9 _ F9 p 2 [] 3 3 from h9)
  have HZ := Lib.hid (show Wi.Rs w9 F9 _ z [8] from hz)
  replace HY := Lib.hid (HY.out.step hm9 hg9)
  obtain ⟨ay, cy, rfl⟩ := HY.out.1.form
  obtain ⟨az, cz, rfl⟩ := HZ.out.1.form
  clear h9 hm9 H8 hg9 hz
  go_wp2_with fail
  have i7 := ints_of_rd (Rd.one (k := 1) (enc := Wi.keyL) (x := (7 : Int)) (at_new w9 3 #[.int .i64 7] _ rfl) rfl)
  refine (ints_any _ 1 cy [7] _ 1 1 [7] _ (ints_of_rd ((HY.out.1.alloc _).rd Wi.keyL_len).1) i7 (by omega) (by omega)).mono ?_
  rintro e w10 ⟨rfl, hb⟩
  rw [show (([7] : List Int) == [7]) = true from rfl]
  have hb9 : Below w9.heap.size w9 w10 := step_below ((Below.refl _ _).alloc (Nat.le_refl _) _) hb
  replace HB := Lib.hid (step_below HB.out hb9)
  replace H9 := Lib.hid (H9.out.below hb9)
  replace HZ := Lib.hid (HZ.out.below hb9)
  clear hb hb9 i7 HY
  go_wp2_with fail
  have i8 := ints_of_rd (Rd.one (k := 1) (enc := Wi.keyL) (x := (8 : Int)) (at_new w10 3 #[.int .i64 8] _ rfl) rfl)
  refine (ints_any _ 1 cz [8] _ 1 1 [8] _ (ints_of_rd ((HZ.out.1.alloc _).rd Wi.keyL_len).1) i8 (by omega) (by omega)).mono ?_
  rintro e w11 ⟨rfl, hb⟩
  rw [show (([8] : List Int) == [8]) = true from rfl]
  have hb9 : Below w10.heap.size w10 w11 := step_below ((Below.refl _ _).alloc (Nat.le_refl _) _) hb
  replace HB := Lib.hid (step_below HB.out hb9)
  replace H9 := Lib.hid (H9.out.below hb9)
  clear hb hb9 i8 HZ
  go_wp2_with fail
  refine (Wi.now_wx H9.out).mono ?_
  rintro e w12 ⟨rfl, rfl⟩
  go_wp2_with fail
  refine (Wi.len_wx H9.out).mono ?_
  rintro e w13 ⟨rfl, rfl⟩
  go_wp2_with fail
  refine (Wi.nil_now _).mono ?_
  rintro e w14 ⟨rfl, rfl⟩
  go_wp2_with fail
  refine (Wi.nil_set 1 1 _).mono ?_
  rintro e w15 ⟨rfl, rfl⟩
  go_wp2_with fail
  refine (Wi.nil_drop 1 _).mono ?_
  rintro e w16 ⟨rfl, rfl⟩
  go_wp2_with fail
  go_ret
  exact ⟨rfl, HB.out⟩
end Go.Proofs.Ytaadkehopfjclaa
