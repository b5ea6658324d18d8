/-
  Texts in one, each behind those that it needs: PoNewW, PoDips, PoServ, PoServW, PoNil, PoDipM, PoSome.
-/
import Derived.Test.YtgjecemmejaieaaBal
/-
  New: its walk.
-/
namespace Go.Proofs.Ytgjecemmejaieaa
open Go.RowKit Go.Shelf
attribute [local go_sem ↓] exec_bldP
/-- A version turned, by a cell: also where its slots are other ones. -/
theorem Po.setV2 {w : World} {B p t : Nat} {c : Cf} {vs : List V} {now : Nat} {lv sv : Value} {L : List Mb} {S : List Dp} (h : Po w B p t c vs now lv L sv S) {i j : Nat} {x x' : V} {u : Value} (hx : vs[i]? = some x) (hj : j < 3) (hx' : V.l x' = (V.l x).set j u) (hs : Sl 18 Dp.l 88 w B x'.sv x'.S) :
    Po (w.setCell ⟨t, i * 3 + j, none⟩ u) B p t c (vs.set i x') now lv L sv S := by
  obtain ⟨cs, hc⟩ := h.tAt
  have hne := h.pt
  refine ⟨?_, ?_, h.bp, ?_, ?_, ?_, by rw [List.length_set]; exact h.lt, by rw [List.length_set]; exact h.big⟩
  · rw [List.length_set]; exact h.obj.far (p := ⟨t, i * 3 + j, none⟩) (by simp only [ne_eq]; omega) _
  · rw [List.length_set]; exact Sl.setCell V.len hj hx hx' h.arr
  · intro v hv
    rcases List.mem_or_eq_of_mem_set hv with hv | rfl
    · exact (h.vers v hv).far (p := ⟨t, i * 3 + j, none⟩) ((h.vers v hv).ne hc (by decide)) _
    · exact hs.far (p := ⟨t, i * 3 + j, none⟩) (hs.ne hc (by decide)) _
  · exact h.last.far (p := ⟨t, i * 3 + j, none⟩) (h.last.ne hc (by decide)) _
  · exact h.sl.far (p := ⟨t, i * 3 + j, none⟩) (h.sl.ne hc (by decide)) _
set_option maxRecDepth 100000 in
set_option maxHeartbeats 8000000 in
theorem pnew_any (c : Cf) (am : Option Addr) (nm cm n nv : Nat) (M : List Mb) (w : World) (hM : Rd 19 Mb.l w am nm M) (hok : mOk M = true) (hc : cok c = true) (hn : c.slots = n) (hv : c.versions = nv) (h1 : 1 ≤ n) (h2 : n ≤ 64) (h3 : 1 ≤ nv) (h4 : nv ≤ 64) :
    Calls Try.prog 24 #[.agg (cc c), .slice am nm cm] w fun e w' => ∃ p t lv sv, e = .returned (.tuple #[.pointer (some ⟨p, 0, none⟩), .int .i64 0]) ∧
      Po w' w.heap.size p t c ((List.replicate nv v0).set 0 ⟨sv, fillR [] M n, 0, false⟩) 0 lv M sv (fillR [] M n) ∧ Below w.heap.size w w' := by
  have HM := Lib.hid hM
  have HOK := Lib.hid hok
  have HCK := Lib.hid (chk_yes c hc)
  have HLE := Lib.hid (show nm ≤ 32 by have := (mOk_w hok).1; have := hM.1; omega)
  clear hM hok hc
  go_enter Try.func24, Try.ntmps24
  go_upto_region 1 with fail
  obtain ⟨bc, hbc⟩ : ∃ bc, bc = w.heap.size := ⟨_, rfl⟩
  rw [← hbc]
  have HC := Lib.hid (at_new w 33 (cc c) bc hbc)
  replace HM := Lib.hid (HM.out.alloc (.cells (cc c) 33))
  have HB := Lib.hid ((Below.refl w.heap.size w).alloc (Nat.le_refl _) (.cells (cc c) 33))
  clear hbc
  generalize w.alloc (.cells (cc c) 33) = W at *
  have r1 := HC.out.row
  have o1 := HC.out.open
  have l1 := HC.out.lt
  go_wp2_with fail
  refine (check_any c _).mono ?_
  rintro e w1 ⟨rfl, hb⟩
  rw [HCK.out]
  replace HC := Lib.hid (HC.out.below hb HC.out.lt)
  replace HM := Lib.hid (HM.out.below hb)
  replace HB := Lib.hid (step_below HB.out hb)
  clear r1 o1 l1 hb
  have c5 := HC.out.cell 5
  rw [cl_head c 5 (by omega)] at c5
  simp only [Cf.head, List.getElem?_cons_succ, List.getElem?_cons_zero, hn] at c5
  have l1 := HC.out.lt
  go_wp2_with fail
  refine (fill_all none am 0 0 nm cm n [] M _ (Rd.zero _ _ _ _) HM.out HOK.out h1 h2 (.inl rfl)).mono ?_
  rintro e w2 ⟨sv, rfl, hs, hb⟩
  obtain ⟨aS, cS, hsv⟩ := hs.form
  obtain ⟨ls, hls⟩ : ∃ m, m = (fillR [] M n).length := ⟨_, rfl⟩
  rw [← hls] at hsv
  subst hsv
  have HSL := Lib.hid (hs.base (show w.heap.size ≤ w1.heap.size from HB.out.size))
  replace HC := Lib.hid (HC.out.below hb HC.out.lt)
  replace HM := Lib.hid (HM.out.below hb)
  replace HB := Lib.hid (step_below HB.out hb)
  clear c5 l1 hb hs hls
  go_wp2_with fail
  have r1 := HC.out.row
  have o1 := HC.out.open
  have l1 := HC.out.lt
  have c6 := HC.out.cell 6
  rw [cl_head c 6 (by omega)] at c6
  simp only [Cf.head, List.getElem?_cons_succ, List.getElem?_cons_zero, hv] at c6
  refine region_sq_till (fun _ => False) [(0, true), (1, true), (2, true), (4, true), (6, true)] 5 (by kernel_rfl) (by kernel_rfl) (fun _ _ d _ _ h => by cases d <;> exact h) ?_
  repeat (first
    | (refine sq_yes rfl (by rfl) (fun w' hM => by ((try replace hM := hM.of_drew); obtain ⟨hR1, hR2, hR3⟩ := hM.rules; clear hM; go_simp; with_reducible rfl)) ?_; simp only [Act.put, List.setIfInBounds_toArray, List.set_cons_zero, List.set_cons_succ])
    | (refine sq_no rfl (by rfl) ?_; simp only [Act.put, List.setIfInBounds_toArray, List.set_cons_zero, List.set_cons_succ]))
  refine sq_end ?_
  clear c6 r1 o1 l1
  refine any_two (n := 4) 3 5 (by kernel_rfl) ?_ ?_
  · have hmk := makeV nv (by omega) w2.drew
    refine sq_do_yes rfl (by rfl) (fun K hK => ?_)
    go_wp2_with fail
    refine ⟨(Mod.refl _ _).alloc _, ?_⟩
    refine sq_end ?_
    obtain ⟨gt, hgt⟩ : ∃ gt, gt = w2.heap.size := ⟨_, rfl⟩
    rw [← hgt]
    have hat := at_new w2 90 ((List.replicate nv v0).flatMap V.l).toArray gt hgt
    have HAR := Lib.hid (Sl.of (B := w.heap.size) (L := List.replicate nv v0) V.len hat (by rw [hgt]; exact HB.out.size) (by simp) (by rw [List.length_replicate]; unfold maxLen; omega))
    replace HB := Lib.hid (HB.out.alloc HB.out.size (.cells ((List.replicate nv v0).flatMap V.l).toArray 90))
    replace HM := Lib.hid (HM.out.alloc (.cells ((List.replicate nv v0).flatMap V.l).toArray 90))
    replace HSL := Lib.hid (HSL.out.alloc (.cells ((List.replicate nv v0).flatMap V.l).toArray 90))
    clear hmk hat hgt HC
    generalize w2.alloc (.cells ((List.replicate nv v0).flatMap V.l).toArray 90) = W3 at *
    refine any_sq (n := 0) [(5, false), (7, true), (8, false), (9, true)] (by kernel_rfl) (fun _ _ d _ _ h => by cases d <;> exact h) ?_
    refine sq_do_yes rfl (by rfl) (fun K hK => ?_)
    go_wp2_with fail
    refine (cloneM_any am nm cm M _ HM.out.drew (by have := HLE.out; omega)).mono ?_
    rintro e w5 ⟨lvn, rfl, hs5, hb5⟩
    obtain ⟨al, cl, hlv⟩ := hs5.form
    obtain ⟨ll, hll⟩ : ∃ m, m = M.length := ⟨_, rfl⟩
    rw [← hll] at hlv
    subst hlv
    have HLV := Lib.hid (hs5.base (show w.heap.size ≤ W3.heap.size from HB.out.size))
    replace HAR := Lib.hid (HAR.out.drew.below hb5)
    replace HSL := Lib.hid (HSL.out.drew.below hb5)
    replace HB := Lib.hid (step_below HB.out.drew hb5)
    clear hs5 hll
    go_wp2_with fail
    refine ⟨Mod.of_below hb5, ?_⟩
    clear hb5
    have hbp := build_pc c (some ⟨gt, 0, none⟩) al aS nv nv ll cl ls cS
    repeat (first
      | (refine sq_yes rfl (by rfl) (fun w' hM => by ((try replace hM := hM.of_drew); obtain ⟨hR1, hR2, hR3⟩ := hM.rules; clear hM; go_simp; with_reducible rfl)) ?_; simp only [Act.put, List.setIfInBounds_toArray, List.set_cons_zero, List.set_cons_succ])
      | (refine sq_no rfl (by rfl) ?_; simp only [Act.put, List.setIfInBounds_toArray, List.set_cons_zero, List.set_cons_succ]))
    clear hbp
    refine sq_do_yes rfl (by rfl) (fun K hK => ?_)
    go_wp2_with fail
    refine ⟨(Mod.refl _ _).alloc _, ?_⟩
    repeat (first
      | (refine sq_yes rfl (by rfl) (fun w' hM => by ((try replace hM := hM.of_drew); obtain ⟨hR1, hR2, hR3⟩ := hM.rules; clear hM; go_simp; with_reducible rfl)) ?_; simp only [Act.put, List.setIfInBounds_toArray, List.set_cons_zero, List.set_cons_succ])
      | (refine sq_no rfl (by rfl) ?_; simp only [Act.put, List.setIfInBounds_toArray, List.set_cons_zero, List.set_cons_succ]))
    refine sq_end ?_
    refine any_end (by kernel_rfl) ?_
    obtain ⟨bp, hbp⟩ : ∃ bp, bp = w5.heap.size := ⟨_, rfl⟩
    rw [← hbp]
    rw [List.length_replicate] at HAR
    have H := Lib.hid (show Po (w5.alloc (.cells (pc c (.slice (some ⟨gt, 0, none⟩) nv nv) 0 (.slice al ll cl) (.slice aS ls cS)) 93)) w.heap.size bp gt c (List.replicate nv v0) 0 (.slice al ll cl) M (.slice aS ls cS) (fillR [] M n) from
      { obj := by rw [List.length_replicate]; exact at_new _ _ _ _ hbp
        arr := by rw [List.length_replicate]; exact HAR.out.alloc _
        bp := by rw [hbp]; exact HB.out.size
        vers := fun v hv => by rw [(List.mem_replicate.1 hv).2]; exact Sl.nil _ _ _ _ _
        last := HLV.out.alloc _
        sl := HSL.out.alloc _
        lt := by rw [List.length_replicate]; omega
        big := by rw [List.length_replicate]; omega })
    replace HB := Lib.hid (HB.out.alloc HB.out.size (.cells (pc c (.slice (some ⟨gt, 0, none⟩) nv nv) 0 (.slice al ll cl) (.slice aS ls cS)) 93))
    clear hbp HAR HLV HSL
    generalize w5.alloc (.cells (pc c (.slice (some ⟨gt, 0, none⟩) nv nv) 0 (.slice al ll cl) (.slice aS ls cS)) 93) = W6 at *
    have HZ := Lib.hid (show (List.replicate nv v0)[0]? = some v0 by rw [List.getElem?_replicate, if_pos (by omega)])
    obtain ⟨c48, -, -, -, hl⟩ := H.out.cells
    obtain ⟨c0, -, -, htl⟩ := H.out.at HZ.out
    rw [List.length_replicate] at c48
    rw [Nat.zero_mul] at c0
    have f0 := (H.out.frz 0).2
    have hnz : (0 : Int) < (nv : Int) := by omega
    have hnz2 : 0 < nv := by omega
    go_wp2_with fail
    go_ret2
    exact ⟨bp, gt, .slice al ll cl, .slice aS ls cS, rfl, H.out.setV2 (i := 0) (j := 0) (x' := ⟨.slice aS ls cS, fillR [] M n, 0, false⟩) HZ.out (by omega) rfl H.out.sl, HB.out.setCell (p := ⟨gt, 0, none⟩) (show w.heap.size ≤ gt from H.out.bt) _⟩
  · skip
    refine sq_do_yes rfl (by rfl) (fun K hK => ?_)
    go_wp2_with fail
    refine (cloneM_any am nm cm M _ HM.out.drew (by have := HLE.out; omega)).mono ?_
    rintro e w4 ⟨lvn, rfl, hs5, hb5⟩
    obtain ⟨al, cl, hlv⟩ := hs5.form
    obtain ⟨ll, hll⟩ : ∃ m, m = M.length := ⟨_, rfl⟩
    rw [← hll] at hlv
    subst hlv
    have HLV := Lib.hid (hs5.base (show w.heap.size ≤ w2.heap.size from HB.out.size))
    replace HSL := Lib.hid (HSL.out.drew.below hb5)
    replace HB := Lib.hid (step_below HB.out.drew hb5)
    clear hs5 hll HC
    go_wp2_with fail
    refine ⟨Mod.of_below hb5, ?_⟩
    clear hb5
    refine sq_end ?_
    refine any_sq (n := 0) [(3, false), (7, true), (8, false), (9, true)] (by kernel_rfl) (fun _ _ d _ _ h => by cases d <;> exact h) ?_
    have hmk := makeV nv (by omega) w4
    refine sq_do_yes rfl (by rfl) (fun K hK => ?_)
    go_wp2_with fail
    refine ⟨(Mod.refl _ _).alloc _, ?_⟩
    obtain ⟨gt, hgt⟩ : ∃ gt, gt = w4.heap.size := ⟨_, rfl⟩
    rw [← hgt]
    have hat := at_new w4 90 ((List.replicate nv v0).flatMap V.l).toArray gt hgt
    have HAR := Lib.hid (Sl.of (B := w.heap.size) (L := List.replicate nv v0) V.len hat (by rw [hgt]; exact HB.out.size) (by simp) (by rw [List.length_replicate]; unfold maxLen; omega))
    replace HB := Lib.hid (HB.out.alloc HB.out.size (.cells ((List.replicate nv v0).flatMap V.l).toArray 90))
    replace HLV := Lib.hid (HLV.out.alloc (.cells ((List.replicate nv v0).flatMap V.l).toArray 90))
    replace HSL := Lib.hid (HSL.out.alloc (.cells ((List.replicate nv v0).flatMap V.l).toArray 90))
    clear hmk hat hgt
    generalize w4.alloc (.cells ((List.replicate nv v0).flatMap V.l).toArray 90) = w5 at *
    have hbp := build_pc c (some ⟨gt, 0, none⟩) al aS nv nv ll cl ls cS
    repeat (first
      | (refine sq_yes rfl (by rfl) (fun w' hM => by ((try replace hM := hM.of_drew); obtain ⟨hR1, hR2, hR3⟩ := hM.rules; clear hM; go_simp; with_reducible rfl)) ?_; simp only [Act.put, List.setIfInBounds_toArray, List.set_cons_zero, List.set_cons_succ])
      | (refine sq_no rfl (by rfl) ?_; simp only [Act.put, List.setIfInBounds_toArray, List.set_cons_zero, List.set_cons_succ]))
    clear hbp
    refine sq_do_yes rfl (by rfl) (fun K hK => ?_)
    go_wp2_with fail
    refine ⟨(Mod.refl _ _).alloc _, ?_⟩
    repeat (first
      | (refine sq_yes rfl (by rfl) (fun w' hM => by ((try replace hM := hM.of_drew); obtain ⟨hR1, hR2, hR3⟩ := hM.rules; clear hM; go_simp; with_reducible rfl)) ?_; simp only [Act.put, List.setIfInBounds_toArray, List.set_cons_zero, List.set_cons_succ])
      | (refine sq_no rfl (by rfl) ?_; simp only [Act.put, List.setIfInBounds_toArray, List.set_cons_zero, List.set_cons_succ]))
    refine sq_end ?_
    refine any_end (by kernel_rfl) ?_
    obtain ⟨bp, hbp⟩ : ∃ bp, bp = w5.heap.size := ⟨_, rfl⟩
    rw [← hbp]
    rw [List.length_replicate] at HAR
    have H := Lib.hid (show Po (w5.alloc (.cells (pc c (.slice (some ⟨gt, 0, none⟩) nv nv) 0 (.slice al ll cl) (.slice aS ls cS)) 93)) w.heap.size bp gt c (List.replicate nv v0) 0 (.slice al ll cl) M (.slice aS ls cS) (fillR [] M n) from
      { obj := by rw [List.length_replicate]; exact at_new _ _ _ _ hbp
        arr := by rw [List.length_replicate]; exact HAR.out.alloc _
        bp := by rw [hbp]; exact HB.out.size
        vers := fun v hv => by rw [(List.mem_replicate.1 hv).2]; exact Sl.nil _ _ _ _ _
        last := HLV.out.alloc _
        sl := HSL.out.alloc _
        lt := by rw [List.length_replicate]; omega
        big := by rw [List.length_replicate]; omega })
    replace HB := Lib.hid (HB.out.alloc HB.out.size (.cells (pc c (.slice (some ⟨gt, 0, none⟩) nv nv) 0 (.slice al ll cl) (.slice aS ls cS)) 93))
    clear hbp HAR HLV HSL
    generalize w5.alloc (.cells (pc c (.slice (some ⟨gt, 0, none⟩) nv nv) 0 (.slice al ll cl) (.slice aS ls cS)) 93) = W6 at *
    have HZ := Lib.hid (show (List.replicate nv v0)[0]? = some v0 by rw [List.getElem?_replicate, if_pos (by omega)])
    obtain ⟨c48, -, -, -, hl⟩ := H.out.cells
    obtain ⟨c0, -, -, htl⟩ := H.out.at HZ.out
    rw [List.length_replicate] at c48
    rw [Nat.zero_mul] at c0
    have f0 := (H.out.frz 0).2
    have hnz : (0 : Int) < (nv : Int) := by omega
    have hnz2 : 0 < nv := by omega
    go_wp2_with fail
    go_ret2
    exact ⟨bp, gt, .slice al ll cl, .slice aS ls cS, rfl, H.out.setV2 (i := 0) (j := 0) (x' := ⟨.slice aS ls cS, fillR [] M n, 0, false⟩) HZ.out (by omega) rfl H.out.sl, HB.out.setCell (p := ⟨gt, 0, none⟩) (show w.heap.size ≤ gt from H.out.bt) _⟩
end Go.Proofs.Ytgjecemmejaieaa

/-
  alike.Dip, alike.Servers, the statements' some.
-/
namespace Go.Proofs.Ytgjecemmejaieaa
open Go.RowKit Go.Shelf
/-- The n-th server. -/
def adp (n : Nat) : Dp := ⟨⟨false, [172, 16, 0, 1 + n % 200, 0, 0, 0, 0, 0, 0, 0, 0, 0, 0, 0, 0], rfl, by intro x hx; simp only [List.mem_cons, List.not_mem_nil, or_false] at hx; omega⟩, 8000 + n % 1000, by omega⟩
def adp1 (n : Nat) : Dp := ⟨dp0.a, 8000 + n % 1000, by omega⟩
theorem exec_bldD (parts : Array (Nat × Operand)) (dst : Option Tmp) (ty : TypeId) (pos : String) (after : Array Edge) (g : Option (Nat × Bool)) (f : Operand → Value) (w : World) :
    (execOp f ⟨dst, .build 88 parts, ty, pos, after, g⟩).run Try.prog w = bldX Try.prog 88 (parts.map fun (i, x) => (i, f x)) w := rfl
theorem exec_bldB (parts : Array (Nat × Operand)) (dst : Option Tmp) (ty : TypeId) (pos : String) (after : Array Edge) (g : Option (Nat × Bool)) (f : Operand → Value) (w : World) :
    (execOp f ⟨dst, .build 28 parts, ty, pos, after, g⟩).run Try.prog w = bldX Try.prog 28 (parts.map fun (i, x) => (i, f x)) w := rfl
attribute [local go_sem ↓] exec_bldD exec_bldB
theorem build_d1 (x : Int) (n : Nat) (hx : x = ((8000 + n % 1000 : Nat) : Int)) (w : World) : bldX Try.prog 88 #[(1, .int .u16 x)] w = .ok (.value (.agg (dc (adp1 n)))) w := by
  subst hx
  exact bldX_of w (by kernel_rfl)
def b16 (n : Nat) : Array Value := (u8s [172, 16, 0, 1 + n % 200, 0, 0, 0, 0, 0, 0, 0, 0, 0, 0, 0, 0]).toArray
theorem b16_size (n : Nat) : (b16 n).size = 16 := by simp [b16, u8s]
theorem b16_one (n : Nat) : (b16 n).all (·.oneCell') = true := by
  rw [Array.all_eq_true']
  intro v hv
  obtain ⟨x, _, rfl⟩ := List.mem_map.1 (by simpa [b16, u8s] using hv : v ∈ List.map (fun (x : Nat) => Value.int .u8 x) [172, 16, 0, 1 + n % 200, 0, 0, 0, 0, 0, 0, 0, 0, 0, 0, 0, 0])
  rfl
theorem build_b16 (x : Int) (n : Nat) (hx : x = ((1 + n % 200 : Nat) : Int)) (w : World) : bldX Try.prog 28 #[(0, .int .u8 172), (1, .int .u8 16), (2, .int .u8 0), (3, .int .u8 x)] w = .ok (.value (.agg (b16 n))) w := by
  subst hx
  exact bldX_of w (by kernel_rfl)
theorem splice_adp (n : Nat) : splice (dc (adp1 n)) 1 (b16 n).toList = dc (adp n) := by
  apply Array.ext_getElem?
  intro j
  rw [splice_get _ _ _ _ (by simp [b16_size, dc_size])]
  by_cases h : 1 ≤ j ∧ j < 1 + (b16 n).toList.length
  · rw [if_pos h]
    have : (b16 n).toList.length = 16 := by simp [b16_size]
    obtain ⟨i, rfl⟩ : ∃ i, j = 1 + i := ⟨j - 1, by omega⟩
    rw [show 1 + i - 1 = i by omega]
    have h2 : i = 0 ∨ i = 1 ∨ i = 2 ∨ i = 3 ∨ i = 4 ∨ i = 5 ∨ i = 6 ∨ i = 7 ∨ i = 8 ∨ i = 9 ∨ i = 10 ∨ i = 11 ∨ i = 12 ∨ i = 13 ∨ i = 14 ∨ i = 15 := by omega
    rcases h2 with rfl | rfl | rfl | rfl | rfl | rfl | rfl | rfl | rfl | rfl | rfl | rfl | rfl | rfl | rfl | rfl <;> rfl
  · rw [if_neg h]
    have : (b16 n).toList.length = 16 := by simp [b16_size]
    rcases Nat.lt_or_ge j 18 with h2 | h2
    · have : j = 0 ∨ j = 17 := by omega
      rcases this with rfl | rfl <;> rfl
    · rw [Array.getElem?_eq_none (by rw [dc_size]; omega), Array.getElem?_eq_none (by rw [dc_size]; omega)]
theorem adp1_set (n : Nat) : (dc (adp1 n)).setIfInBounds 0 (.bool false) = dc (adp1 n) := by
  apply Array.ext_getElem?
  intro j
  rw [Array.getElem?_setIfInBounds]
  by_cases h : 0 = j
  · subst h
    rw [if_pos rfl, if_pos (by rw [dc_size]; omega)]; rfl
  · rw [if_neg h]
set_option maxRecDepth 100000 in
set_option maxHeartbeats 4000000 in
theorem adip_any (n : Nat) (_hn : n ≤ 100000) (w : World) : Calls Try.prog 50 #[.int .i64 (n : Int), .bool false] w fun e w' => e = .returned (.agg (dc (adp n))) ∧ Below w.heap.size w w' := by
  have hb1 := build_d1 (8000 + (n : Int) % 1000) n (by omega)
  have hb2 := build_b16 (1 + (n : Int) % 200) n (by omega)
  have hm1 : IntKind.u16.wrap (8000 + (n : Int) % 1000) = 8000 + (n : Int) % 1000 := by rw [IntKind.wrap_u16]; omega
  have hm2 : IntKind.u8.wrap (1 + (n : Int) % 200) = 1 + (n : Int) % 200 := by rw [IntKind.wrap_u8]; omega
  have hst1 := fun (w : World) (m : Nat) (Z : Array Value) (hn : m = w.heap.size) (hZ : Z.size = 18) => store_new (P := Try.prog) sizeDp w m Z (dc (adp1 n)) hn hZ (dc_size _) (dc_one _)
  have hs2 := fun (w : World) (m off : Nat) (Z : Array Value) (hn : m = w.heap.size) (hZ : off + 16 ≤ Z.size) => store_mid (P := Try.prog) w m off 88 Z (b16 n) hn (by rw [b16_size]; exact hZ) (b16_one _)
  have hs4 := fun (w : World) (m : Nat) (Z : Array Value) (ob : Obj) (hn : m = w.heap.size) (hZ : Z.size = 18) => store_second (P := Try.prog) w m 88 Z (dc (adp n)) ob hn (by rw [dc_size, hZ]) (dc_one _)
  have hag : ∀ (w : World) (m : Nat), m = w.heap.size → aggAt (w.alloc (.cells (dc (adp n)) 88)) m 0 18 = dc (adp n) ∧ aggOk (w.alloc (.cells (dc (adp n)) 88)) m 0 18 = true := fun w m h => by
    have := (at_new w 88 (dc (adp n)) m h).agg 0 18 (by rw [dc_size]; omega)
    rw [show 0 + 18 = 18 from rfl, dc_all] at this
    exact this
  have hag1 := fun w m h => (hag w m h).1
  have hag2 := fun w m h => (hag w m h).2
  clear hag
  have hz1 : (b16 n).size = 16 := b16_size _
  have hz2 := splice_adp n
  have hz3 := adp1_set n
  go_enter Try.func50, Try.ntmps50
  go_wp2_with fail
  refine (round_big (n : Int) 1000 (by omega) (by omega) _).mono ?_
  rintro e w1 ⟨rfl, rfl⟩
  go_wp2_with fail
  refine (round_big (n : Int) 200 (by omega) (by omega) _).mono ?_
  rintro e w1 ⟨rfl, rfl⟩
  go_wp2_with fail
  exact bodyPost_ret (results_cell_row rfl _ _ w.heap.size 88 (dc (adp n)) (0, 0) _ rfl ((at_new w 88 _ _ rfl).alloc _) Try.underlying88 rfl (by rw [dc_size]; exact sizeDp)) rfl ⟨rfl, ((Below.refl _ w).alloc (Nat.le_refl _) _).alloc (by simp) _⟩
end Go.Proofs.Ytgjecemmejaieaa

/-
  alike.Servers: a member that is built.
-/
namespace Go.Proofs.Ytgjecemmejaieaa
open Go.RowKit Go.Shelf
theorem exec_bldM (parts : Array (Nat × Operand)) (dst : Option Tmp) (ty : TypeId) (pos : String) (after : Array Edge) (g : Option (Nat × Bool)) (f : Operand → Value) (w : World) :
    (execOp f ⟨dst, .build 108 parts, ty, pos, after, g⟩).run Try.prog w = bldX Try.prog 108 (parts.map fun (i, x) => (i, f x)) w := rfl
noncomputable def zM : Array Value := match (Try.prog.info? 108).bind (·.zero) with | some z => z.cells | none => #[]
theorem zM_ok : (zM.size == 19) = true := by kernel_rfl
theorem builtM_fill (X : List (Nat × Value)) : Try.prog.built 108 X = Instr.fill (#[(0, 18), (18, 1)][·]?) zM X := by kernel_rfl
theorem built_mc (d : Dp) (x : Int) : Try.prog.built 108 [(0, .agg (dc d)), (1, .int .i64 x)] = some (mc ⟨d, x⟩) := by
  have hz := zM_ok
  simp only [beq_iff_eq] at hz
  rw [builtM_fill]
  generalize zM = z at hz ⊢
  have hc : (Value.agg (dc d)).cells = dc d := rfl
  have h1 : Instr.fill (#[(0, 18), (18, 1)][·]?) z [(0, .agg (dc d)), (1, .int .i64 x)] = some ((splice z 0 (dc d).toList).setIfInBounds 18 (.int .i64 x)) := by
    have hf : (dc d).zipIdx.foldl (fun cs (x : Value × Nat) => cs.setIfInBounds (0 + x.2) x.1) z = splice z 0 (dc d).toList := by
      rw [← foldl_spliceP 0 (dc d).toList 0 z, ← Array.foldl_toList, Array.toList_zipIdx]
    simp only [Instr.fill, List.getElem?_toArray, List.getElem?_cons_zero, List.getElem?_cons_succ, hc, dc_size]
    rw [if_neg (by simp [hz])]
    rw [hf]
    simp [Value.cells, splice_size, hz]
  rw [h1]
  refine congrArg some (Array.ext_getElem? ?_)
  intro j
  simp only [Array.getElem?_setIfInBounds, splice_size, hz]
  rw [splice_get _ _ _ _ (by simp [dc_size, hz])]
  rcases Nat.lt_or_ge j 18 with h | h
  · rw [if_neg (by omega), if_pos (by simp [dc_size]; omega), ml_dip _ _ h]
    simp
  · by_cases h8 : j = 18
    · subst h8
      rw [if_pos rfl, if_pos (by omega), mc_18?]
    · rw [if_neg (by omega), if_neg (by simp [dc_size]; omega), Array.getElem?_eq_none (by rw [hz]; omega), Array.getElem?_eq_none (by rw [mc_size]; omega)]
theorem build_mc (d : Dp) (x : Int) (w : World) : bldX Try.prog 108 #[(0, .agg (dc d)), (1, .int .i64 x)] w = .ok (.value (.agg (mc ⟨d, x⟩))) w := bldX_of w (built_mc d x)
/-- Members, each of a weight. -/
def srv (L : List Int) : List Mb := (List.range L.length).map fun i => ⟨adp i, 1 + L.getD i 0 % 16⟩
end Go.Proofs.Ytgjecemmejaieaa

/-
  alike.Servers: its walk.
-/
namespace Go.Proofs.Ytgjecemmejaieaa
open Go.RowKit Go.Shelf
attribute [local go_sem ↓] exec_bldM
theorem mc_fold (y : Mb) (Z : Array Value) (hZ : Z.size = 19) : Array.foldl (fun (cs : Array Value) (x : Value × Nat) => cs.setIfInBounds x.snd x.fst) Z (mc y).zipIdx 0 19 = mc y := by
  have e1 : Array.foldl (fun (cs : Array Value) (x : Value × Nat) => cs.setIfInBounds x.snd x.fst) Z (mc y).zipIdx 0 19 = List.foldl (fun (cs : Array Value) (x : Value × Nat) => cs.setIfInBounds x.snd x.fst) Z (y.l.zipIdx 0) := by
    have hs : (mc y).zipIdx.size = 19 := by simp [mc_size]
    conv => lhs; rw [← hs]
    rw [← Array.foldl_toList]
    simp [mc]
  rw [e1]
  apply Array.ext_getElem?
  intro j
  rw [sets_get _ _ _ _ (by rw [Mb.len, hZ]; omega), Mb.len]
  by_cases hj : j < 19
  · rw [if_pos (by omega), ml_get, Nat.sub_zero]
  · rw [if_neg (by omega), Array.getElem?_eq_none (by omega), Array.getElem?_eq_none (by rw [mc_size]; omega)]
theorem srv_len (L : List Int) : (srv L).length = L.length := by simp [srv]
theorem srv_get {L : List Int} {i : Nat} {x : Int} (h : L[i]? = some x) : (srv L)[i]? = some ⟨adp i, 1 + x % 16⟩ := by
  have hi : i < L.length := (List.getElem?_eq_some_iff.1 h).1
  unfold srv
  rw [List.getElem?_map, List.getElem?_range hi, Option.map_some, getD_of h]
set_option maxRecDepth 100000 in
set_option maxHeartbeats 4000000 in
theorem servers_any (a : Option Addr) (n c : Nat) (L : List Int) (w : World) (h : Rd 1 ei w a n L) (hn : n ≤ 32) :
    Calls Try.prog 30 #[.slice a n c, .bool false] w fun e w' => ∃ v, e = .returned v ∧ Sl 19 Mb.l 108 w' w.heap.size v (srv L) ∧ Below w.heap.size w w' := by
  have HL := Lib.hid h
  have HN := Lib.hid (show L.length = n from h.1)
  clear h
  go_enter Try.func30, Try.ntmps30
  go_wp2_with fail
  go_loopw [5, 6] (fun s5 s6 wx => ∃ j : Nat, s6 = .int .i64 (j : Nat) ∧ j ≤ n ∧ Sl 19 Mb.l 108 wx w.heap.size s5 ((srv L).take j) ∧ Below w.heap.size w wx) (fun _ s6 _ => n - (intOf s6).toNat)
  case atStart => exact ⟨0, rfl, Nat.zero_le _, Sl.nil _ _ _ _ _, Below.refl _ _⟩
  case round =>
    obtain ⟨j, rfl, hj, hs, hb⟩ := hrel
    have HS := Lib.hid hs
    have HB := Lib.hid hb
    clear hs hb
    by_cases hlt : j < n
    · have hltz : (j : Int) < (n : Int) := by omega
      have hd : decide (j < n) = true := by simpa using hlt
      have hd2 : decide ((j : Int) < 32) = true := by simp; omega
      obtain ⟨x, hx⟩ : ∃ x, L[j]? = some x := ⟨_, List.getElem?_eq_getElem (by have := HN.out; omega)⟩
      have HX := Lib.hid hx
      obtain ⟨b, o, rfl, hbl, hc⟩ := HL.out.2 (by omega)
      have hcx := hc j x hx 0 (by omega)
      have hbw := hbl
      replace hbl : b < wr.heap.size := Nat.lt_of_lt_of_le hbl HB.out.size
      replace hcx := (HB.out.cell (p := ⟨b, o + j * 1 + 0, none⟩) hbw).trans hcx
      rw [Nat.mul_one, Nat.add_zero] at hcx
      simp only [List.getElem?_cons_zero] at hcx
      have hw16 : ¬ w.heap.size ≤ b := by omega
      clear hx hc hbw
      go_wp2_with fail
      clear hd hd2
      refine region_sq (fun i => w.heap.size ≤ i) [(0, true), (1, true), (2, true), (4, true), (5, true), (6, true), (7, true), (3, false), (8, false), (9, true), (10, true), (11, false), (12, false), (13, true)] (by kernel_rfl) (by kernel_rfl) (fun _ _ d _ _ h => by cases d <;> exact h) ?_
      repeat (first
        | (refine sq_yes rfl (by rfl) (fun w' hM => by ((try replace hM := hM.of_drew); obtain ⟨hR1, hR2, hR3⟩ := hM.rules; have hA := hM.agg; obtain ⟨hA1, hA2⟩ := hA; clear hM; go_simp; with_reducible rfl)) ?_; simp only [Act.put, List.setIfInBounds_toArray, List.set_cons_zero, List.set_cons_succ])
        | (refine sq_no rfl (by rfl) ?_; simp only [Act.put, List.setIfInBounds_toArray, List.set_cons_zero, List.set_cons_succ]))
      refine sq_do_yes rfl (by rfl) (fun K hK => ?_)
      go_wp2_with fail
      refine (adip_any j (by omega) _).mono ?_
      rintro e w2 ⟨rfl, hb2⟩
      have HB2 := Lib.hid (step_below HB.out.drew hb2)
      have HS2 := Lib.hid (HS.out.drew.below hb2)
      go_wp2_with fail
      refine ⟨Mod.of_below hb2, ?_⟩
      clear hb2
      repeat (first
        | (refine sq_yes rfl (by rfl) (fun w' hM => by ((try replace hM := hM.of_drew); obtain ⟨hR1, hR2, hR3⟩ := hM.rules; have hA := hM.agg; obtain ⟨hA1, hA2⟩ := hA; clear hM; go_simp; with_reducible rfl)) ?_; simp only [Act.put, List.setIfInBounds_toArray, List.set_cons_zero, List.set_cons_succ])
        | (refine sq_no rfl (by rfl) ?_; simp only [Act.put, List.setIfInBounds_toArray, List.set_cons_zero, List.set_cons_succ]))
      refine sq_do_yes rfl (by rfl) (fun K hK => ?_)
      go_wp2_with fail
      refine (round_big x 16 (by omega) (by omega) _).mono ?_
      rintro e w3 ⟨rfl, rfl⟩
      go_wp2_with fail
      refine ⟨Mod.refl _ _, ?_⟩
      have hm := Int.emod_nonneg x (show (16 : Int) ≠ 0 by omega)
      have hm2 := Int.emod_lt_of_pos x (show (0 : Int) < 16 by omega)
      have hwr : IntKind.i64.wrap (1 + x % 16) = 1 + x % 16 := by rw [IntKind.wrap_i64]; omega
      have hbm := build_mc (adp j) (1 + x % 16)
      repeat (first
        | (refine sq_yes rfl (by rfl) (fun w' hM => by ((try replace hM := hM.of_drew); obtain ⟨hR1, hR2, hR3⟩ := hM.rules; have hA := hM.agg; obtain ⟨hA1, hA2⟩ := hA; clear hM; go_simp; with_reducible rfl)) ?_; simp only [Act.put, List.setIfInBounds_toArray, List.set_cons_zero, List.set_cons_succ])
        | (refine sq_no rfl (by rfl) ?_; simp only [Act.put, List.setIfInBounds_toArray, List.set_cons_zero, List.set_cons_succ]))
      clear hbm hwr
      refine sq_do_yes rfl (by rfl) (fun K hK => ?_)
      go_wp2_with fail
      rw [mc_fold _ _ rfl]
      refine ⟨(Mod.refl _ _).alloc _, ?_⟩
      obtain ⟨bx, hbx⟩ : ∃ bx, bx = w3.heap.size := ⟨_, rfl⟩
      rw [← hbx]
      have hR := Rd.one (k := 19) (enc := Mb.l) (x := ⟨adp j, 1 + x % 16⟩) (at_new w3 108 (mc ⟨adp j, 1 + x % 16⟩) bx hbx) (by simp [mc])
      have HR := Lib.hid hR
      replace HB2 := Lib.hid (HB2.out.alloc HB2.out.size (.cells (mc ⟨adp j, 1 + x % 16⟩) 108))
      replace HS2 := Lib.hid (HS2.out.alloc (.cells (mc ⟨adp j, 1 + x % 16⟩) 108))
      clear hR hbx hm hm2
      generalize w3.alloc (.cells (mc ⟨adp j, 1 + x % 16⟩) 108) = W4 at *
      have hl32 : ((srv L).take j).length ≤ 32 := by rw [List.length_take]; omega
      refine sq_do_yes rfl (by rfl) (fun K hK => ?_)
      refine wp_sl_app (B := w.heap.size) Mb.len ml_one slMb infoMb3 (mc_size _) (by decide) HS2.out HR.out (by unfold maxLen; omega) (by omega) HB2.out.size rfl rfl rfl ?_
      intro v' W5 hs5 hm5 _
      have hge := fun g (hg : u5.ownBlock = some g) => (HS2.out.ge hg).1
      have HS5 := Lib.hid hs5
      have HB5 := Lib.hid (HB2.out.trans (mod_below hm5 HB2.out.size hge))
      refine hK _ _ ⟨hm5.mono (fun g _ hg => hge g hg), ?_⟩
      clear hs5 hm5 hge hcx hbl hw16
      simp only [Act.put, List.setIfInBounds_toArray, List.set_cons_zero, List.set_cons_succ]
      repeat (first
        | (refine sq_yes rfl (by rfl) (fun w' hM => by ((try replace hM := hM.of_drew); obtain ⟨hR1, hR2, hR3⟩ := hM.rules; have hA := hM.agg; obtain ⟨hA1, hA2⟩ := hA; clear hM; go_simp; with_reducible rfl)) ?_; simp only [Act.put, List.setIfInBounds_toArray, List.set_cons_zero, List.set_cons_succ])
        | (refine sq_no rfl (by rfl) ?_; simp only [Act.put, List.setIfInBounds_toArray, List.set_cons_zero, List.set_cons_succ]))
      refine sq_end ?_
      go_wp2_with fail
      go_roundw
      case rel =>
        refine ⟨j + 1, by simp, by omega, ?_, HB5.out⟩
        rw [List.take_add_one, srv_get HX.out]
        exact HS5.out
      case measure => simp [intOf] <;> omega
    · have hltz : ¬ (j : Int) < (n : Int) := by omega
      have hd : decide (j < n) = false := by simpa using hlt
      have HT := Lib.hid (show (srv L).take j = srv L from List.take_of_length_le (by rw [srv_len, HN.out]; omega))
      go_wp2_with fail
      go_ret
      rw [← HT.out]
      exact ⟨_, rfl, HS.out, HB.out⟩
end Go.Proofs.Ytgjecemmejaieaa

/-
  A pool that is nil: Now, Ref.
-/
namespace Go.Proofs.Ytgjecemmejaieaa
open Go.RowKit Go.Shelf
theorem now_nil (w : World) : Calls Try.prog 21 #[.pointer none] w fun e w' => e = .returned (.int .i64 0) ∧ w' = w := by
  go_enter Try.func21, Try.ntmps21
  go_wp2_with fail
  go_ret
  exact ⟨rfl, rfl⟩
theorem live_nil (v : Int) (w : World) : Calls Try.prog 37 #[.pointer none, .int .i64 v] w fun e w' => e = .returned (.bool false) ∧ w' = w := by
  go_enter Try.func37, Try.ntmps37
  go_wp2_with fail
  go_ret
  exact ⟨rfl, rfl⟩
theorem ref_nil (v : Int) (w : World) : Calls Try.prog 31 #[.pointer none, .int .i64 v] w fun e w' => e = .returned (.int .i64 4) ∧ w' = w := by
  go_enter Try.func31, Try.ntmps31
  go_wp2_with fail
  refine (live_nil v _).mono ?_
  rintro e w1 ⟨rfl, rfl⟩
  go_wp2_with fail
  go_ret
  exact ⟨rfl, rfl⟩
theorem new_nil_bad (c : Cf) (am : Option Addr) (nm cm : Nat) (w : World) (hc : cok c = false) :
    Calls Try.prog 24 #[.agg (cc c), .slice am nm cm] w fun e w' => e = .returned (.tuple #[.pointer none, .int .i64 1]) ∧ Below w.heap.size w w' := by
  have H := Lib.hid (chk_no c hc)
  clear hc
  go_enter Try.func24, Try.ntmps24
  go_upto_region 1 with fail
  obtain ⟨bc, hbc⟩ : ∃ bc, bc = w.heap.size := ⟨_, rfl⟩
  rw [← hbc]
  have HC := Lib.hid (at_new w 33 (cc c) bc hbc)
  have HB := Lib.hid ((Below.refl w.heap.size w).alloc (Nat.le_refl _) (.cells (cc c) 33))
  clear hbc
  generalize w.alloc (.cells (cc c) 33) = W at *
  have r1 := HC.out.row
  have o1 := HC.out.open
  have l1 := HC.out.lt
  go_wp2_with fail
  refine (check_any c _).mono ?_
  rintro e w1 ⟨rfl, hb⟩
  rw [H.out]
  have HB1 := Lib.hid (step_below HB.out hb)
  clear r1 o1 l1 hb
  go_wp2_with fail
  go_ret2
  exact ⟨rfl, HB1.out⟩
end Go.Proofs.Ytgjecemmejaieaa

/-
  Dip: who has a slot.
-/
namespace Go.Proofs.Ytgjecemmejaieaa
open Go.RowKit Go.Shelf
theorem exec_bldD2 (parts : Array (Nat × Operand)) (dst : Option Tmp) (ty : TypeId) (pos : String) (after : Array Edge) (g : Option (Nat × Bool)) (f : Operand → Value) (w : World) :
    (execOp f ⟨dst, .build 88 parts, ty, pos, after, g⟩).run Try.prog w = bldX Try.prog 88 (parts.map fun (i, x) => (i, f x)) w := rfl
attribute [local go_sem ↓] exec_bldD2
theorem build_d0 (w : World) : bldX Try.prog 88 #[] w = .ok (.value (.agg (dc dp0))) w := bldX_of w (by kernel_rfl)
variable {w w' : World} {B p t : Nat} {c : Cf} {vs : List V} {now : Nat} {lv sv : Value} {L : List Mb} {S : List Dp}
end Go.Proofs.Ytgjecemmejaieaa

/-
  The statements' some: members from a place on.
-/
namespace Go.Proofs.Ytgjecemmejaieaa
open Go.RowKit Go.Shelf
/-- The weights. -/
def somW (f : Int) (k : Nat) : List Int := (List.range k).map fun i : Nat => f.tdiv 3 + (i : Int)
theorem somW_snoc (f : Int) (k : Nat) : somW f (k + 1) = somW f k ++ [f.tdiv 3 + k] := by simp [somW, List.range_succ]
def som (f n : Int) : List Mb := (List.range (n % 6).toNat).map fun i : Nat => ⟨adp ((f % 5).toNat + i), 1 + (f.tdiv 3 + (i : Int)) % 16⟩
/-- The first cells of an element set anew. -/
theorem Sl.setPart {α : Type} {k : Nat} {enc : α → List Value} {e : TypeId} {w : World} {B n c : Nat} {L : List α} (hk : ∀ x, (enc x).length = k) {g i : Nat} {x x' : α} {part : List Value} (hp : part.length ≤ k) (hx : L[i]? = some x) (hx' : enc x' = part ++ (enc x).drop part.length) (h : Sl k enc e w B (.slice (some ⟨g, 0, none⟩) n c) L) :
    Sl k enc e (w.setCells g (i * k) part) B (.slice (some ⟨g, 0, none⟩) n c) (L.set i x') := by
  have hi : i < L.length := (List.getElem?_eq_some_iff.1 hx).1
  rcases h.cases with ⟨h1, rfl⟩ | ⟨g', c', cur, h1, h2, h3, h4, h5, h6, h7⟩
  · simp at h1
  · simp only [Value.slice.injEq, Option.some.injEq, Addr.mk.injEq, and_true] at h1
    obtain ⟨rfl, rfl, rfl⟩ := h1
    have hfit : i * k + part.length ≤ cur.size := by
      rw [h6]
      have : (i + 1) * k ≤ c * k := Nat.mul_le_mul_right _ (by omega)
      rw [Nat.succ_mul] at this
      omega
    refine ⟨by rw [flatLen hk, List.length_set], .inr ⟨g, c, splice cur (i * k) part, by rw [List.length_set], h2, At.setCells part (i * k) w cur h3, by rw [List.length_set]; exact h4, h5, by rw [splice_size]; exact h6, ?_⟩⟩
    apply List.ext_getElem?
    intro t
    rw [List.length_set, List.getElem?_take]
    by_cases ht : t < L.length * k
    · have hk0 : 0 < k := Nat.pos_of_ne_zero fun h0 => by subst h0; simp at ht
      have hr : t % k < k := Nat.mod_lt _ hk0
      have hq : t / k * k + t % k = t := by rw [Nat.mul_comm]; exact Nat.div_add_mod t k
      have hql : t / k < L.length := Nat.div_lt_of_lt_mul (by rwa [Nat.mul_comm] at ht)
      have hf := flatGet hk L (t / k) (t % k) hr
      have hf2 := flatGet hk (L.set i x') (t / k) (t % k) hr
      rw [hq, ← h7, List.getElem?_take, if_pos ht, Array.getElem?_toList] at hf
      rw [hq] at hf2
      rw [if_pos ht, Array.getElem?_toList, hf2, splice_get _ _ _ _ hfit, List.getElem?_set]
      by_cases hit : i = t / k
      · subst hit
        rw [if_pos rfl, if_pos hql, Option.bind_some, hx']
        by_cases hj : t % k < part.length
        · rw [if_pos (by omega), List.getElem?_append_left hj]
          congr 1
          omega
        · rw [if_neg (by omega), hf, hx, Option.bind_some, List.getElem?_append_right (by omega), List.getElem?_drop]
          congr 1
          omega
      · rw [if_neg hit, if_neg ?_, hf]
        intro hx
        have h8 : t / k < i + 1 := Nat.div_lt_of_lt_mul (by rw [Nat.mul_comm, Nat.succ_mul]; omega)
        have h9 : i ≤ t / k := (Nat.le_div_iff_mul_le hk0).2 hx.1
        omega
    · rw [if_neg ht, List.getElem?_eq_none]
      rw [flatLen hk, List.length_set]; omega
/-- On the way: the first j have their servers turned. -/
def smx (r : Nat) (q : Int) (k j : Nat) : List Mb := (List.range k).map fun i : Nat => ⟨adp (if i < j then r + i else i), 1 + (q + (i : Int)) % 16⟩
theorem smx_len (r : Nat) (q : Int) (k j : Nat) : (smx r q k j).length = k := by simp [smx]
theorem smx_get (r : Nat) (q : Int) (k j i : Nat) (h : i < k) : (smx r q k j)[i]? = some ⟨adp (if i < j then r + i else i), 1 + (q + (i : Int)) % 16⟩ := by
  unfold smx
  rw [List.getElem?_map, List.getElem?_range h, Option.map_some]
theorem smx_none (r : Nat) (q : Int) (k j i : Nat) (h : ¬ i < k) : (smx r q k j)[i]? = none := List.getElem?_eq_none (by rw [smx_len]; omega)
theorem smx_step (r : Nat) (q : Int) (k j : Nat) : smx r q k (j + 1) = (smx r q k j).set j ⟨adp (r + j), 1 + (q + (j : Int)) % 16⟩ := by
  apply List.ext_getElem?
  intro i
  rw [List.getElem?_set, smx_len]
  by_cases hi : i < k
  · rw [smx_get _ _ _ _ _ hi, smx_get _ _ _ _ _ hi]
    by_cases hj : j = i
    · subst hj
      rw [if_pos rfl, if_pos hi, if_pos (by omega)]
    · rw [if_neg hj]
      by_cases h2 : i < j
      · rw [if_pos h2, if_pos (by omega)]
      · rw [if_neg h2, if_neg (by omega)]
  · rw [smx_none _ _ _ _ _ hi, smx_none _ _ _ _ _ hi]
    split
    · rw [if_neg (by omega)]
    · rfl
theorem smx_srv (r : Nat) (f : Int) (k : Nat) : srv (somW f k) = smx r (f.tdiv 3) k 0 := by
  unfold srv smx somW
  rw [List.length_map, List.length_range]
  refine List.map_congr_left fun i hi => ?_
  have hi := List.mem_range.1 hi
  rw [if_neg (by omega), List.getD_eq_getElem?_getD, List.getElem?_map, List.getElem?_range hi]
  rfl
theorem smx_som (f n : Int) (k : Nat) (hk : n % 6 = k) : smx (f % 5).toNat (f.tdiv 3) k k = som f n := by
  unfold smx som
  rw [hk, Int.toNat_natCast]
  refine List.map_congr_left fun i hi => ?_
  rw [if_pos (List.mem_range.1 hi)]
theorem mc_part (d d' : Dp) (x : Int) : Mb.l ⟨d', x⟩ = (dc d').toList ++ (Mb.l ⟨d, x⟩).drop (dc d').toList.length := by
  have h1 : (dc d').toList = d'.l := by simp [dc]
  rw [h1, Dp.l_length]
  unfold Mb.l
  rw [List.drop_append_of_le_length (by rw [Dp.l_length]; exact Nat.le_refl _), List.drop_of_length_le (by rw [Dp.l_length]; exact Nat.le_refl _), List.nil_append]
end Go.Proofs.Ytgjecemmejaieaa
