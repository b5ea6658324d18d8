/-
  The document's pool: NewPools.
-/
import Derived.Test.YthfgccibiajneaaPoRfResQ
import Derived.Test.YthfgccibiajneaaFamCheckCQ
namespace Go.Proofs.Ythfgccibiajneaa
open Go.RowKit Go.Shelf
theorem exec_bldR (parts : Array (Nat × Operand)) (dst : Option Tmp) (ty : TypeId) (pos : String) (after : Array Edge) (g : Option (Nat × Bool)) (f : Operand → Value) (w : World) :
    (execOp f ⟨dst, .build 107 parts, ty, pos, after, g⟩).run Try.prog w = bldX Try.prog 107 (parts.map fun (i, x) => (i, f x)) w := rfl
noncomputable def zR : Array Value := match (Try.prog.info? 107).bind (·.zero) with | some z => z.cells | none => #[]
theorem zR_ok : (zR.size == 52 && (match (zR[49]? : Option Value) with | some (.int .i64 0) => true | _ => false) && (match (zR[50]? : Option Value) with | some (.int .i64 0) => true | _ => false)) = true := by kernel_rfl
theorem builtR_fill (X : List (Nat × Value)) : Try.prog.built 107 X = Instr.fill (#[(0, 48), (48, 1), (49, 1), (50, 1), (51, 1)][·]?) zR X := by kernel_rfl
set_option maxRecDepth 100000 in
theorem built_rpc (c : Cf) (a1 a2 : Option Addr) (n1 c1 n2 c2 : Nat) : Try.prog.built 107 [(0, .agg (cc c)), (1, .slice a1 n1 c1), (4, .slice a2 n2 c2)] = some (rpc c (.slice a1 n1 c1) 0 0 (.slice a2 n2 c2)) := by
  have hz := zR_ok
  simp only [Bool.and_eq_true, beq_iff_eq] at hz
  rw [builtR_fill]
  generalize zR = z at hz ⊢
  have hc : (Value.agg (cc c)).cells = cc c := rfl
  have h1 : Instr.fill (#[(0, 48), (48, 1), (49, 1), (50, 1), (51, 1)][·]?) z [(0, .agg (cc c)), (1, .slice a1 n1 c1), (4, .slice a2 n2 c2)] = some (((splice z 0 (cc c).toList).setIfInBounds 48 (.slice a1 n1 c1)).setIfInBounds 51 (.slice a2 n2 c2)) := by
    have hf : (cc c).zipIdx.foldl (fun cs (x : Value × Nat) => cs.setIfInBounds (0 + x.2) x.1) z = splice z 0 (cc c).toList := by
      rw [← foldl_spliceP 0 (cc c).toList 0 z, ← Array.foldl_toList, Array.toList_zipIdx]
    simp only [Instr.fill, List.getElem?_toArray, List.getElem?_cons_zero, List.getElem?_cons_succ, hc, cc_size]
    rw [if_neg (by simp [hz.1.1])]
    rw [hf]
    simp [Value.cells, splice_size, hz.1.1]
  rw [h1]
  refine congrArg some (Array.ext_getElem? ?_)
  intro j
  simp only [Array.getElem?_setIfInBounds, Array.size_setIfInBounds, splice_size, hz.1.1]
  rw [splice_get _ _ _ _ (by simp [cc_size, hz.1.1])]
  rcases Nat.lt_or_ge j 48 with h | h
  · rw [if_neg (by omega), if_neg (by omega), if_pos (by simp [cc_size]; omega), rpc_lo _ _ _ _ _ _ h]
    simp
  · obtain ⟨i, rfl⟩ : ∃ i, j = 48 + i := ⟨j - 48, by omega⟩
    rw [rpc_hi]
    rcases Nat.lt_or_ge i 4 with h4 | h4
    · have : i = 0 ∨ i = 1 ∨ i = 2 ∨ i = 3 := by omega
      rcases this with rfl | rfl | rfl | rfl
      · rw [if_neg (by omega), if_pos (by omega), if_pos (by omega)] <;> rfl
      · rw [if_neg (by omega), if_neg (by omega), if_neg (by simp [cc_size])]
        have := hz.1.2
        split at this
        · assumption
        · cases this
      · rw [if_neg (by omega), if_neg (by omega), if_neg (by simp [cc_size])]
        have := hz.2
        split at this
        · assumption
        · cases this
      · rw [if_pos (by omega), if_pos (by omega)] <;> rfl
    · rw [if_neg (by omega), if_neg (by omega), if_neg (by simp [cc_size]), Array.getElem?_eq_none (by rw [hz.1.1]; omega), Array.getElem?_eq_none (by simp; omega)]
theorem build_rpc (c : Cf) (a1 a2 : Option Addr) (n1 c1 n2 c2 : Nat) (w : World) : bldX Try.prog 107 #[(0, .agg (cc c)), (1, .slice a1 n1 c1), (4, .slice a2 n2 c2)] w = .ok (.value (.agg (rpc c (.slice a1 n1 c1) 0 0 (.slice a2 n2 c2)))) w := bldX_of w (built_rpc c a1 a2 n1 c1 n2 c2)
def r0 : RV := ⟨false, false, 0, .slice none 0 0, []⟩
theorem infoR : (Try.prog.info? 177).map (fun i => (i.zero, i.size, i.bytes)) = some (some (.agg (RV.l r0).toArray), 4, 40) := by kernel_rfl
theorem slR : Try.prog.underlying 105 = some (.slice 177) := by kernel_rfl
theorem makeR (n : Nat) (hn : n ≤ 4096) (w : World) : (Instr.makeSlice 105 (.int .i64 (n : Int)) (.int .i64 (n : Int))).run Try.prog w = .ok (.slice (some ⟨w.heap.size, 0, none⟩) n n) (w.alloc (.cells ((List.replicate n r0).flatMap RV.l).toArray 177)) := by
  obtain ⟨i0, hi, hz0, hz1, hz2⟩ := info_parts infoR
  have := run_make (P := Try.prog) w 105 177 i0 _ slR hi hz0 .i64 .i64 n n (by omega) (by omega) (by rw [hz2]; omega) (by omega)
  rw [hz1, Int.toNat_natCast] at this
  rw [this, show (Value.agg (RV.l r0).toArray).cells = (RV.l r0).toArray from rfl, made_flat RV.len (by omega)]
attribute [local go_sem ↓] exec_bldR
/-- What is laid, as a pool. -/
theorem Rp.made {w : World} {B gt gp nv ll cl : Nat} {al : Option Addr} {c : Cf} {M : List Mb} (hnv : 0 < nv) (hb : nv ≤ 4096) (hgp : gp = w.heap.size) (hB : B ≤ w.heap.size) (ha : Sl 4 RV.l 177 w B (.slice (some ⟨gt, 0, none⟩) nv nv) (List.replicate nv r0)) (hm : Sl 19 Mb.l 95 w B (.slice al ll cl) M) :
    Rp (w.alloc (.cells (rpc c (.slice (some ⟨gt, 0, none⟩) nv nv) 0 0 (.slice al ll cl)) 107)) B gp gt c (List.replicate nv r0) 0 0 (.slice al ll cl) M where
  obj := by rw [List.length_replicate]; exact at_new _ _ _ _ hgp
  arr := by rw [List.length_replicate]; exact ha.alloc _
  bp := by omega
  vers := fun v hv => by rw [(List.mem_replicate.1 hv).2]; exact Sl.nil _ _ _ _ _
  ml := hm.alloc _
  lt := by rw [List.length_replicate]; omega
  ltl := by rw [List.length_replicate]; omega
  big := by rw [List.length_replicate]; omega
theorem arrAt {w : World} {B gt nv : Nat} {R : List RV} (h : Sl 4 RV.l 177 w B (.slice (some ⟨gt, 0, none⟩) nv nv) R) : ∃ cs, At w gt 177 cs := by
  rcases h.cases with ⟨h1, _⟩ | ⟨g, c', cur, h1, h2, h3, _⟩
  · simp at h1
  · simp only [Value.slice.injEq, Option.some.injEq, Addr.mk.injEq, and_true] at h1
    obtain ⟨rfl, _⟩ := h1
    exact ⟨_, h3⟩
set_option maxRecDepth 100000 in
set_option maxHeartbeats 8000000 in
theorem rnew_bad (c : Cf) (am : Option Addr) (nm cm : Nat) (M : List Mb) (w : World) (hM : Rd 19 Mb.l w am nm M) (hn : nm ≤ 4096) (hc : cok c = true) (hok : mOk M = false) :
    Calls Try.prog 54 #[.agg (cc c), .slice am nm cm] w fun e w' => e = .returned (.pointer none) ∧ Below w.heap.size w w' := by
  have HM := Lib.hid hM
  have HOK := Lib.hid hok
  have HCK := Lib.hid hc
  clear hM hok hc
  go_enter Try.func54, Try.ntmps54
  go_upto_region 1 with fail
  obtain ⟨bc, hbc⟩ : ∃ bc, bc = w.heap.size := ⟨_, rfl⟩
  rw [← hbc]
  have HC := Lib.hid (at_new w 27 (cc c) bc hbc)
  replace HM := Lib.hid (HM.out.alloc (.cells (cc c) 27))
  have HB := Lib.hid ((Below.refl w.heap.size w).alloc (Nat.le_refl _) (.cells (cc c) 27))
  clear hbc
  generalize w.alloc (.cells (cc c) 27) = W at *
  have r1 := HC.out.row
  have o1 := HC.out.open
  have l1 := HC.out.lt
  go_wp2_with fail
  refine (refCheck_any c _).mono ?_
  rintro e w1 ⟨rfl, hb⟩
  rw [HCK.out]
  replace HM := Lib.hid (HM.out.below hb)
  replace HB := Lib.hid (step_below HB.out hb)
  clear r1 o1 l1 hb
  go_wp2_with fail
  refine (rmembers_any am nm cm M _ HM.out hn).mono ?_
  rintro e w2 ⟨rfl, hb⟩
  rw [HOK.out]
  replace HB := Lib.hid (step_below HB.out hb)
  clear hb
  go_wp2_with fail
  go_ret
  exact ⟨rfl, HB.out⟩
set_option maxRecDepth 100000 in
set_option maxHeartbeats 8000000 in
theorem rnew_any (c : Cf) (am : Option Addr) (nm cm n nv : Nat) (M : List Mb) (w : World) (hM : Rd 19 Mb.l w am nm M) (hok : mOk M = true) (hc : cok c = true) (hn : c.slots = n) (hv : c.versions = nv) (h1 : 1 ≤ n) (h2 : n ≤ 64) (h3 : 1 ≤ nv) (h4 : nv ≤ 64) :
    Calls Try.prog 54 #[.agg (cc c), .slice am nm cm] w fun e w' => ∃ p t mv sv, e = .returned (.pointer (some ⟨p, 0, none⟩)) ∧
      Rp w' w.heap.size p t c ((List.replicate nv r0).set 0 ⟨true, false, 0, sv, fillR [] M n⟩) 0 0 mv M ∧ Below w.heap.size w w' := by
  have HM := Lib.hid hM
  have HOK := Lib.hid hok
  have HCK := Lib.hid hc
  have HLE := Lib.hid (show nm ≤ 32 by have := (mOk_w hok).1; have := hM.1; omega)
  clear hM hok hc
  go_enter Try.func54, Try.ntmps54
  go_upto_region 1 with fail
  obtain ⟨bc, hbc⟩ : ∃ bc, bc = w.heap.size := ⟨_, rfl⟩
  rw [← hbc]
  have HC := Lib.hid (at_new w 27 (cc c) bc hbc)
  replace HM := Lib.hid (HM.out.alloc (.cells (cc c) 27))
  have HB := Lib.hid ((Below.refl w.heap.size w).alloc (Nat.le_refl _) (.cells (cc c) 27))
  clear hbc
  generalize w.alloc (.cells (cc c) 27) = W at *
  have r1 := HC.out.row
  have o1 := HC.out.open
  have l1 := HC.out.lt
  go_wp2_with fail
  refine (refCheck_any c _).mono ?_
  rintro e w1 ⟨rfl, hb⟩
  rw [HCK.out]
  replace HC := Lib.hid (HC.out.below hb HC.out.lt)
  replace HM := Lib.hid (HM.out.below hb)
  replace HB := Lib.hid (step_below HB.out hb)
  clear r1 o1 l1 hb
  go_wp2_with fail
  refine (rmembers_any am nm cm M _ HM.out (by have := HLE.out; omega)).mono ?_
  rintro e w2 ⟨rfl, hb⟩
  rw [HOK.out]
  replace HC := Lib.hid (HC.out.below hb HC.out.lt)
  replace HM := Lib.hid (HM.out.below hb)
  replace HB := Lib.hid (step_below HB.out hb)
  clear hb
  have r1 := HC.out.row
  have o1 := HC.out.open
  have l1 := HC.out.lt
  have c6 := HC.out.cell 6
  rw [cl_head c 6 (by omega)] at c6
  simp only [Cf.head, List.getElem?_cons_succ, List.getElem?_cons_zero, hv] at c6
  go_upto_region 3 with fail
  go_cut [5, 16, 17, 18, 19, 20, 21, 22, 23, 24] (fun s5 _ _ _ _ _ _ _ _ _ wx => ∃ p t mv, s5 = .pointer (some ⟨p, 0, none⟩) ∧ Rp wx w.heap.size p t c (List.replicate nv r0) 0 0 mv M ∧ Below w2.heap.size w2 wx)
  case first =>
    have HWS := Lib.hid HB.out.size
    have hbcl : ¬ w2.heap.size ≤ bc := by omega
    replace HB := Lib.hid (Below.refl w2.heap.size w2)
    refine region_sq_till (fun i => w2.heap.size ≤ i) [(0, true), (1, true), (2, true), (5, true)] 6 (by kernel_rfl) (by kernel_rfl) (fun _ _ d _ _ h => by cases d <;> exact h) ?_
    repeat (first
      | (refine sq_yes rfl (by rfl) (fun w' hM => by ((try replace hM := hM.of_drew); obtain ⟨hR1, hR2, hR3⟩ := hM.rules; clear hM; go_simp; with_reducible rfl)) ?_; simp only [Act.put, List.setIfInBounds_toArray, List.set_cons_zero, List.set_cons_succ])
      | (refine sq_no rfl (by rfl) ?_; simp only [Act.put, List.setIfInBounds_toArray, List.set_cons_zero, List.set_cons_succ]))
    refine sq_end ?_
    clear r1 o1 l1 c6 hbcl HC
    refine any_two (n := 5) 3 4 (by kernel_rfl) ?_ ?_
    · have hmk := makeR nv (by omega) w2.drew
      refine sq_do_yes rfl (by rfl) (fun K hK => ?_)
      go_wp2_with fail
      refine ⟨(Mod.refl _ _).alloc _, ?_⟩
      refine sq_end ?_
      obtain ⟨gt, hgt⟩ : ∃ gt, gt = w2.heap.size := ⟨_, rfl⟩
      rw [← hgt]
      have hat := at_new w2 177 ((List.replicate nv r0).flatMap RV.l).toArray gt hgt
      have HAR := Lib.hid (Sl.of (B := w.heap.size) (L := List.replicate nv r0) RV.len hat (by rw [hgt]; exact Nat.le_trans HWS.out HB.out.size) (by simp) (by rw [List.length_replicate]; unfold maxLen; omega))
      rw [List.length_replicate] at HAR
      replace HB := Lib.hid (HB.out.alloc HB.out.size (.cells ((List.replicate nv r0).flatMap RV.l).toArray 177))
      replace HM := Lib.hid (HM.out.alloc (.cells ((List.replicate nv r0).flatMap RV.l).toArray 177))
      have HG2 := Lib.hid hgt
      clear hmk hat hgt
      generalize w2.alloc (.cells ((List.replicate nv r0).flatMap RV.l).toArray 177) = W3 at *
      refine any_sq (n := 0) [(4, false), (6, false), (7, true), (8, false), (9, true)] (by kernel_rfl) (fun _ _ d _ _ h => by cases d <;> exact h) ?_
      refine sq_do_yes rfl (by rfl) (fun K hK => ?_)
      go_wp2_with fail
      refine ⟨(Mod.refl _ _).alloc _, ?_⟩
      obtain ⟨gq, hgq⟩ : ∃ gq, gq = W3.heap.size := ⟨_, rfl⟩
      rw [← hgq]
      have HEM := Lib.hid (Sl.empty 19 Mb.l 95 W3 gq hgq (show w.heap.size ≤ gq by rw [hgq]; exact Nat.le_trans HWS.out HB.out.size))
      have HGQ := Lib.hid (show w2.heap.size ≤ gq by rw [hgq]; exact HB.out.size)
      replace HB := Lib.hid (HB.out.alloc HB.out.size (.cells #[] 95))
      replace HM := Lib.hid (HM.out.alloc (.cells #[] 95))
      replace HAR := Lib.hid (HAR.out.alloc (.cells #[] 95))
      clear hgq
      generalize W3.alloc (.cells #[] 95) = W4 at *
      repeat (first
        | (refine sq_yes rfl (by rfl) (fun w' hM => by ((try replace hM := hM.of_drew); obtain ⟨hR1, hR2, hR3⟩ := hM.rules; clear hM; go_simp; with_reducible rfl)) ?_; simp only [Act.put, List.setIfInBounds_toArray, List.set_cons_zero, List.set_cons_succ])
        | (refine sq_no rfl (by rfl) ?_; simp only [Act.put, List.setIfInBounds_toArray, List.set_cons_zero, List.set_cons_succ]))
      refine sq_do_yes rfl (by rfl) (fun K hK => ?_)
      refine wp_sl_app (B := w.heap.size) (L := []) Mb.len ml_one slMb infoMb3 (mc_size _) (by decide) HEM.out.drew HM.out.drew (by have := HLE.out; simp [maxLen]; omega) (by have := HLE.out; simp; omega) (Nat.le_trans HWS.out HB.out.size) rfl rfl rfl ?_
      intro v5 W5 hs5 hm5 _
      obtain ⟨al, cl, hlv⟩ := hs5.form
      obtain ⟨ll, hll⟩ : ∃ m, m = ([] ++ M : List Mb).length := ⟨_, rfl⟩
      rw [← hll] at hlv
      subst hlv
      have HLV := Lib.hid hs5
      have HB5 := Lib.hid (HB.out.drew.trans (mod_below hm5 HB.out.drew.size (fun g hg => by simp only [Value.ownBlock, Option.some.injEq] at hg; have := HGQ.out; omega)))
      obtain ⟨csA, hcA⟩ := arrAt HAR.out
      have hqt := HEM.out.ne hcA (by decide)
      replace HAR := Lib.hid (HAR.out.drew.mod hm5 (fun g hg e => hqt (e.trans hg.symm)))
      clear hqt hcA
      refine hK _ _ ⟨hm5.mono (fun g _ hg => by simp only [Value.ownBlock, Option.some.injEq] at hg; have := HGQ.out; have := HG2.out; omega), ?_⟩
      clear hs5 hm5 hll
      replace HB := HB5
      clear HB5
      simp only [Act.put, List.setIfInBounds_toArray, List.set_cons_zero, List.set_cons_succ]
      have hbp := build_rpc c (some ⟨gt, 0, none⟩) al nv nv ll cl
      repeat (first
        | (refine sq_yes rfl (by rfl) (fun w' hM => by ((try replace hM := hM.of_drew); obtain ⟨hR1, hR2, hR3⟩ := hM.rules; clear hM; go_simp; with_reducible rfl)) ?_; simp only [Act.put, List.setIfInBounds_toArray, List.set_cons_zero, List.set_cons_succ])
        | (refine sq_no rfl (by rfl) ?_; simp only [Act.put, List.setIfInBounds_toArray, List.set_cons_zero, List.set_cons_succ]))
      clear hbp
      refine sq_do_yes rfl (by rfl) (fun K hK => ?_)
      go_wp2_with fail
      refine ⟨(Mod.refl _ _).alloc _, ?_⟩
      repeat (first
        | (refine sq_yes rfl (by rfl) (fun w' hM => by ((try replace hM := hM.of_drew); obtain ⟨hR1, hR2, hR3⟩ := hM.rules; clear hM; go_simp; with_reducible rfl)) ?_; simp only [Act.put, List.setIfInBounds_toArray, List.set_cons_zero, List.set_cons_succ])
        | (refine sq_no rfl (by rfl) ?_; simp only [Act.put, List.setIfInBounds_toArray, List.set_cons_zero, List.set_cons_succ]))
      refine sq_end ?_
      refine any_end (by kernel_rfl) ?_
      go_wp2_with fail
      go_meet
      exact ⟨_, gt, .slice al ll cl, rfl, Rp.made (by omega) (by omega) rfl (Nat.le_trans HWS.out HB.out.size) HAR.out HLV.out, HB.out.alloc HB.out.size _⟩
    · refine sq_do_yes rfl (by rfl) (fun K hK => ?_)
      go_wp2_with fail
      refine ⟨(Mod.refl _ _).alloc _, ?_⟩
      refine sq_end ?_
      obtain ⟨gq, hgq⟩ : ∃ gq, gq = w2.heap.size := ⟨_, rfl⟩
      rw [← hgq]
      have HEM := Lib.hid (Sl.empty 19 Mb.l 95 w2 gq hgq (show w.heap.size ≤ gq by rw [hgq]; exact Nat.le_trans HWS.out HB.out.size))
      have HGQ := Lib.hid (show w2.heap.size ≤ gq by rw [hgq]; exact HB.out.size)
      replace HB := Lib.hid (HB.out.alloc HB.out.size (.cells #[] 95))
      replace HM := Lib.hid (HM.out.alloc (.cells #[] 95))
      clear hgq
      generalize w2.alloc (.cells #[] 95) = W3 at *
      refine any_two (n := 4) 3 6 (by kernel_rfl) ?_ ?_
      · have hmk := makeR nv (by omega) W3.drew
        refine sq_do_yes rfl (by rfl) (fun K hK => ?_)
        go_wp2_with fail
        refine ⟨(Mod.refl _ _).alloc _, ?_⟩
        refine sq_end ?_
        obtain ⟨gt, hgt⟩ : ∃ gt, gt = W3.heap.size := ⟨_, rfl⟩
        rw [← hgt]
        have hat := at_new W3 177 ((List.replicate nv r0).flatMap RV.l).toArray gt hgt
        have HAR := Lib.hid (Sl.of (B := w.heap.size) (L := List.replicate nv r0) RV.len hat (by rw [hgt]; exact Nat.le_trans HWS.out HB.out.size) (by simp) (by rw [List.length_replicate]; unfold maxLen; omega))
        rw [List.length_replicate] at HAR
        replace HB := Lib.hid (HB.out.alloc HB.out.size (.cells ((List.replicate nv r0).flatMap RV.l).toArray 177))
        replace HM := Lib.hid (HM.out.alloc (.cells ((List.replicate nv r0).flatMap RV.l).toArray 177))
        replace HEM := Lib.hid (HEM.out.alloc (.cells ((List.replicate nv r0).flatMap RV.l).toArray 177))
        clear hmk hat hgt
        generalize W3.alloc (.cells ((List.replicate nv r0).flatMap RV.l).toArray 177) = W4 at *
        refine any_sq (n := 0) [(6, false), (7, true), (8, false), (9, true)] (by kernel_rfl) (fun _ _ d _ _ h => by cases d <;> exact h) ?_
        refine sq_do_yes rfl (by rfl) (fun K hK => ?_)
        refine wp_sl_app (B := w.heap.size) (L := []) Mb.len ml_one slMb infoMb3 (mc_size _) (by decide) HEM.out.drew HM.out.drew (by have := HLE.out; simp [maxLen]; omega) (by have := HLE.out; simp; omega) (Nat.le_trans HWS.out HB.out.size) rfl rfl rfl ?_
        intro v5 W5 hs5 hm5 _
        obtain ⟨al, cl, hlv⟩ := hs5.form
        obtain ⟨ll, hll⟩ : ∃ m, m = ([] ++ M : List Mb).length := ⟨_, rfl⟩
        rw [← hll] at hlv
        subst hlv
        have HLV := Lib.hid hs5
        have HB5 := Lib.hid (HB.out.drew.trans (mod_below hm5 HB.out.drew.size (fun g hg => by simp only [Value.ownBlock, Option.some.injEq] at hg; have := HGQ.out; omega)))
        obtain ⟨csA, hcA⟩ := arrAt HAR.out
        have hqt := HEM.out.ne hcA (by decide)
        replace HAR := Lib.hid (HAR.out.drew.mod hm5 (fun g hg e => hqt (e.trans hg.symm)))
        clear hqt hcA
        refine hK _ _ ⟨hm5.mono (fun g _ hg => by simp only [Value.ownBlock, Option.some.injEq] at hg; have := HGQ.out; omega), ?_⟩
        clear hs5 hm5 hll
        replace HB := HB5
        clear HB5
        simp only [Act.put, List.setIfInBounds_toArray, List.set_cons_zero, List.set_cons_succ]
        have hbp := build_rpc c (some ⟨gt, 0, none⟩) al nv nv ll cl
        repeat (first
          | (refine sq_yes rfl (by rfl) (fun w' hM => by ((try replace hM := hM.of_drew); obtain ⟨hR1, hR2, hR3⟩ := hM.rules; clear hM; go_simp; with_reducible rfl)) ?_; simp only [Act.put, List.setIfInBounds_toArray, List.set_cons_zero, List.set_cons_succ])
          | (refine sq_no rfl (by rfl) ?_; simp only [Act.put, List.setIfInBounds_toArray, List.set_cons_zero, List.set_cons_succ]))
        clear hbp
        refine sq_do_yes rfl (by rfl) (fun K hK => ?_)
        go_wp2_with fail
        refine ⟨(Mod.refl _ _).alloc _, ?_⟩
        repeat (first
          | (refine sq_yes rfl (by rfl) (fun w' hM => by ((try replace hM := hM.of_drew); obtain ⟨hR1, hR2, hR3⟩ := hM.rules; clear hM; go_simp; with_reducible rfl)) ?_; simp only [Act.put, List.setIfInBounds_toArray, List.set_cons_zero, List.set_cons_succ])
          | (refine sq_no rfl (by rfl) ?_; simp only [Act.put, List.setIfInBounds_toArray, List.set_cons_zero, List.set_cons_succ]))
        refine sq_end ?_
        refine any_end (by kernel_rfl) ?_
        go_wp2_with fail
        go_meet
        exact ⟨_, gt, .slice al ll cl, rfl, Rp.made (by omega) (by omega) rfl (Nat.le_trans HWS.out HB.out.size) HAR.out HLV.out, HB.out.alloc HB.out.size _⟩
      · refine sq_do_yes rfl (by rfl) (fun K hK => ?_)
        refine wp_sl_app (B := w.heap.size) (L := []) Mb.len ml_one slMb infoMb3 (mc_size _) (by decide) HEM.out.drew HM.out.drew (by have := HLE.out; simp [maxLen]; omega) (by have := HLE.out; simp; omega) (Nat.le_trans HWS.out HB.out.size) rfl rfl rfl ?_
        intro v5 W5 hs5 hm5 _
        obtain ⟨al, cl, hlv⟩ := hs5.form
        obtain ⟨ll, hll⟩ : ∃ m, m = ([] ++ M : List Mb).length := ⟨_, rfl⟩
        rw [← hll] at hlv
        subst hlv
        have HLV := Lib.hid hs5
        have HB5 := Lib.hid (HB.out.drew.trans (mod_below hm5 HB.out.drew.size (fun g hg => by simp only [Value.ownBlock, Option.some.injEq] at hg; have := HGQ.out; omega)))
        refine hK _ _ ⟨hm5.mono (fun g _ hg => by simp only [Value.ownBlock, Option.some.injEq] at hg; have := HGQ.out; omega), ?_⟩
        clear hs5 hm5 hll
        replace HB := HB5
        clear HB5
        simp only [Act.put, List.setIfInBounds_toArray, List.set_cons_zero, List.set_cons_succ]
        refine sq_end ?_
        have hmk := makeR nv (by omega) W5
        refine any_sq (n := 0) [(3, false), (7, true), (8, false), (9, true)] (by kernel_rfl) (fun _ _ d _ _ h => by cases d <;> exact h) ?_
        refine sq_do_yes rfl (by rfl) (fun K hK => ?_)
        go_wp2_with fail
        refine ⟨(Mod.refl _ _).alloc _, ?_⟩
        obtain ⟨gt, hgt⟩ : ∃ gt, gt = W5.heap.size := ⟨_, rfl⟩
        rw [← hgt]
        have hat := at_new W5 177 ((List.replicate nv r0).flatMap RV.l).toArray gt hgt
        have HAR := Lib.hid (Sl.of (B := w.heap.size) (L := List.replicate nv r0) RV.len hat (by rw [hgt]; exact Nat.le_trans HWS.out HB.out.size) (by simp) (by rw [List.length_replicate]; unfold maxLen; omega))
        rw [List.length_replicate] at HAR
        replace HB := Lib.hid (HB.out.alloc HB.out.size (.cells ((List.replicate nv r0).flatMap RV.l).toArray 177))
        replace HLV := Lib.hid (HLV.out.alloc (.cells ((List.replicate nv r0).flatMap RV.l).toArray 177))
        clear hmk hat hgt
        generalize W5.alloc (.cells ((List.replicate nv r0).flatMap RV.l).toArray 177) = W6 at *
        have hbp := build_rpc c (some ⟨gt, 0, none⟩) al nv nv ll cl
        repeat (first
          | (refine sq_yes rfl (by rfl) (fun w' hM => by ((try replace hM := hM.of_drew); obtain ⟨hR1, hR2, hR3⟩ := hM.rules; clear hM; go_simp; with_reducible rfl)) ?_; simp only [Act.put, List.setIfInBounds_toArray, List.set_cons_zero, List.set_cons_succ])
          | (refine sq_no rfl (by rfl) ?_; simp only [Act.put, List.setIfInBounds_toArray, List.set_cons_zero, List.set_cons_succ]))
        clear hbp
        refine sq_do_yes rfl (by rfl) (fun K hK => ?_)
        go_wp2_with fail
        refine ⟨(Mod.refl _ _).alloc _, ?_⟩
        repeat (first
          | (refine sq_yes rfl (by rfl) (fun w' hM => by ((try replace hM := hM.of_drew); obtain ⟨hR1, hR2, hR3⟩ := hM.rules; clear hM; go_simp; with_reducible rfl)) ?_; simp only [Act.put, List.setIfInBounds_toArray, List.set_cons_zero, List.set_cons_succ])
          | (refine sq_no rfl (by rfl) ?_; simp only [Act.put, List.setIfInBounds_toArray, List.set_cons_zero, List.set_cons_succ]))
        refine sq_end ?_
        refine any_end (by kernel_rfl) ?_
        go_wp2_with fail
        go_meet
        exact ⟨_, gt, .slice al ll cl, rfl, Rp.made (by omega) (by omega) rfl (Nat.le_trans HWS.out HB.out.size) HAR.out HLV.out, HB.out.alloc HB.out.size _⟩
  case rest =>
    clear r1 o1 l1 c6
    obtain ⟨p, t, mv, rfl, hR, hb⟩ := hcut
    have HR := Lib.hid hR
    replace HC := Lib.hid (HC.out.below hb HC.out.lt)
    replace HM := Lib.hid (HM.out.below hb)
    replace HB := Lib.hid (step_below HB.out hb)
    clear hR hb
    have c5 := HC.out.cell 5
    rw [cl_head c 5 (by omega)] at c5
    simp only [Cf.head, List.getElem?_cons_succ, List.getElem?_cons_zero, hn] at c5
    have l1 := HC.out.lt
    go_wp2_with fail
    refine (rfill_any none am 0 0 nm cm n [] M _ (Rd.zero _ _ _ _) HM.out HOK.out h1 h2 (.inl rfl)).mono ?_
    rintro e w3 ⟨svn, rfl, hs3, hb3⟩
    have HS3 := Lib.hid (hs3.base (show w.heap.size ≤ wc.heap.size from HB.out.size))
    obtain ⟨an, cn, hsn⟩ := hs3.form
    obtain ⟨ln, hln⟩ : ∃ m, m = (fillR [] M n).length := ⟨_, rfl⟩
    rw [← hln] at hsn
    subst hsn
    replace HR := Lib.hid (HR.out.below hb3)
    replace HB := Lib.hid (step_below HB.out hb3)
    clear hs3 hb3 hln c5 l1 HC HM
    have HZ := Lib.hid (show (List.replicate nv r0)[0]? = some r0 by rw [List.getElem?_replicate, if_pos (by omega)])
    obtain ⟨c48, -, -, -, hl⟩ := HR.out.cells
    have c0 := HR.out.at0 HZ.out
    obtain ⟨c1, c2, c3, htl⟩ := HR.out.at HZ.out
    rw [List.length_replicate] at c48
    rw [Nat.zero_mul] at c0 c1 c2 c3
    have f0 := (HR.out.frz 0).2
    have f1 := (HR.out.frz 1).2
    have f2 := (HR.out.frz 2).2
    have f3 := (HR.out.frz 3).2
    have hnz : (0 : Int) < (nv : Int) := by omega
    have hnz2 : 0 < nv := by omega
    have H4 := Lib.hid (HR.out.setWhole (i := 0) (by rw [List.length_replicate]; omega) ⟨true, false, 0, .slice an ln cn, fillR [] M n⟩ HS3.out)
    rw [Nat.zero_mul] at H4
    simp only [RV.l, Int.natCast_zero] at H4
    have HB4 := Lib.hid (HB.out.trans (mod_below (Mod.setCells (M := fun g => g = t) (g := t) rfl [.bool true, .bool false, .int .i64 0, .slice an ln cn] 0 w3) HB.out.size (fun g hg => by rw [hg]; exact HR.out.bt)))
    go_wp2_with fail
    go_ret
    exact ⟨p, t, mv, .slice an ln cn, rfl, H4.out, HB4.out⟩
end Go.Proofs.Ythfgccibiajneaa
