/-
  family.New; some flows and configurations of the statements.
-/
import Derived.Test.YthfgccibiajneaaFamCheckB
import Derived.Test.YthfgccibiajneaaAggB
namespace Go.Proofs.Ythfgccibiajneaa
open Go.RowKit
set_option maxRecDepth 100000 in
set_option maxHeartbeats 4000000 in
theorem new_bad (c : Cf) (w : World) (h : cok c = false) : Calls Try.prog 17 #[.agg (cc c)] w fun e w' => e = .returned (.tuple #[.pointer none, .int .i64 1]) ∧ Below w.heap.size w w' := by
  have H := Lib.hid (chk_no c h)
  go_enter Try.func17, Try.ntmps17
  go_wp2_with fail
  refine (check_any c _).mono ?_
  rintro e w1 ⟨rfl, hb⟩
  rw [H.out]
  go_wp2_with fail
  go_ret2
  exact ⟨rfl, step_below ((Below.refl _ w).alloc (Nat.le_refl _) _) hb⟩
/-- A family's cells when so many tables are made. -/
def zt : Array Value := Array.replicate 256 (.int .u32 0)
def fcu (c : Cf) (k : Nat) : Array Value := cc c ++ (if 0 < k then tabv (poly 0) else zt) ++ (if 1 < k then tabv (poly 1) else zt) ++ (if 2 < k then tabv (poly 2) else zt) ++ (if 3 < k then tabv (poly 3) else zt)
theorem fcu_4 (c : Cf) : fcu c 4 = fc c := rfl
theorem sets_get : ∀ (l : List Value) (o : Nat) (z : Array Value) (j : Nat), o + l.length ≤ z.size →
    (List.foldl (fun (cs : Array Value) (x : Value × Nat) => cs.setIfInBounds x.snd x.fst) z (l.zipIdx o))[j]? = if o ≤ j ∧ j < o + l.length then l[j - o]? else z[j]?
  | [], o, z, j, _ => by rw [if_neg (fun h => by have := h.2; simp only [List.length_nil] at this; omega)]; rfl
  | v :: r, o, z, j, h => by
    simp only [List.length_cons] at h
    rw [List.zipIdx_cons, List.foldl_cons, sets_get r (o + 1) _ j (by rw [Array.size_setIfInBounds]; omega), Array.getElem?_setIfInBounds]
    simp only [List.length_cons]
    by_cases h1 : o + 1 ≤ j ∧ j < o + 1 + r.length
    · rw [if_pos h1, if_pos (by omega), show j - o = (j - (o + 1)) + 1 by omega, List.getElem?_cons_succ]
    · rw [if_neg h1]
      by_cases h2 : o = j
      · subst h2
        rw [if_pos rfl, if_pos (by omega), if_pos (by omega), Nat.sub_self]; rfl
      · rw [if_neg h2, if_neg (by omega)]
theorem zeros_tail : Try.zeroCells139.size = 1072 ∧ Try.zeroCells139.toList.drop 48 = List.replicate 1024 (.int .u32 0) := ⟨by kernel_rfl, by kernel_rfl⟩
theorem fam_start (c : Cf) : Array.foldl (fun (cs : Array Value) (x : Value × Nat) => cs.setIfInBounds x.snd x.fst) Try.zeroCells139 (cc c).zipIdx 0 48 = fcu c 0 := by
  obtain ⟨hz1, hz2⟩ := zeros_tail
  generalize Try.zeroCells139 = z at *
  have hzt : zt.size = 256 := by simp [zt]
  have e1 : Array.foldl (fun (cs : Array Value) (x : Value × Nat) => cs.setIfInBounds x.snd x.fst) z (cc c).zipIdx 0 48 = List.foldl (fun (cs : Array Value) (x : Value × Nat) => cs.setIfInBounds x.snd x.fst) z (c.l.zipIdx 0) := by
    have hs : (cc c).zipIdx.size = 48 := by simp [cc_size]
    conv => lhs; rw [← hs]
    rw [← Array.foldl_toList]
    simp [cc]
  rw [e1]
  apply Array.ext_getElem?
  intro j
  rw [sets_get _ _ _ _ (by rw [Cf.l_length]; omega), Cf.l_length]
  unfold fcu
  simp only [Nat.lt_irrefl, Nat.not_lt_zero, if_false]
  by_cases hj : j < 48
  · rw [if_pos (by omega), Array.getElem?_append_left (by simp [cc_size, hzt]; omega), Array.getElem?_append_left (by simp [cc_size, hzt]; omega), Array.getElem?_append_left (by simp [cc_size, hzt]; omega), Array.getElem?_append_left (by simp [cc_size]; omega), cl_get, Nat.sub_zero]
  · rw [if_neg (by omega)]
    have hz : z[j]? = if j < 1072 then some (.int .u32 0) else none := by
      have h1 : (z.toList.drop 48)[j - 48]? = z[j]? := by rw [List.getElem?_drop, Array.getElem?_toList, show 48 + (j - 48) = j by omega]
      rw [← h1, hz2, List.getElem?_replicate]
      by_cases hb : j < 1072
      · rw [if_pos hb, if_pos (by omega)]
      · rw [if_neg hb, if_neg (by omega)]
    rw [hz]
    have hq : (cc c ++ zt ++ zt ++ zt ++ zt) = cc c ++ Array.replicate 1024 (Value.int .u32 0) := by
      simp [zt, Array.append_assoc]
    rw [hq, Array.getElem?_append_right (by rw [cc_size]; omega), Array.getElem?_replicate, cc_size]
    by_cases hb : j < 1072
    · rw [if_pos hb, if_pos (by omega)]
    · rw [if_neg hb, if_neg (by omega)]
theorem splice_mid (A B B' C : Array Value) (h : B'.size = B.size) : splice (A ++ B ++ C) A.size B'.toList = A ++ B' ++ C := by
  apply Array.ext_getElem?
  intro j
  rw [splice_get _ _ _ _ (by simp; omega)]
  simp only [Array.length_toList]
  by_cases h1 : A.size ≤ j ∧ j < A.size + B'.size
  · rw [if_pos h1, Array.getElem?_append_left (by simp; omega), Array.getElem?_append_right (by omega), Array.getElem?_toList]
  · rw [if_neg h1]
    by_cases h2 : j < A.size
    · rw [Array.getElem?_append_left (by simp; omega), Array.getElem?_append_left h2, Array.getElem?_append_left (by simp; omega), Array.getElem?_append_left h2]
    · rw [Array.getElem?_append_right (by simp; omega), Array.getElem?_append_right (by simp; omega)]
      simp [h]
theorem zt_size : zt.size = 256 := by simp [zt]
theorem fcu_size (c : Cf) (k : Nat) : (fcu c k).size = 1072 := by
  unfold fcu
  simp only [Array.size_append, cc_size]
  repeat' split
  all_goals simp [tabv_size, zt_size]
theorem fcu_step (c : Cf) (k : Nat) (hk : k < 4) : splice (fcu c k) (48 + k * 256) (tabv (poly k)).toList = fcu c (k + 1) := by
  have ht := zt_size
  have hk4 : k = 0 ∨ k = 1 ∨ k = 2 ∨ k = 3 := by omega
  rcases hk4 with rfl | rfl | rfl | rfl
  · have := splice_mid (cc c) zt (tabv (poly 0)) (zt ++ zt ++ zt) (by rw [tabv_size, ht])
    rw [cc_size] at this
    simpa [fcu, Array.append_assoc] using this
  · have := splice_mid (cc c ++ tabv (poly 0)) zt (tabv (poly 1)) (zt ++ zt) (by rw [tabv_size, ht])
    rw [Array.size_append, cc_size, tabv_size] at this
    simpa [fcu, Array.append_assoc] using this
  · have := splice_mid (cc c ++ tabv (poly 0) ++ tabv (poly 1)) zt (tabv (poly 2)) zt (by rw [tabv_size, ht])
    rw [Array.size_append, Array.size_append, cc_size, tabv_size, tabv_size] at this
    simpa [fcu, Array.append_assoc] using this
  · have := splice_mid (cc c ++ tabv (poly 0) ++ tabv (poly 1) ++ tabv (poly 2)) zt (tabv (poly 3)) #[] (by rw [tabv_size, ht])
    rw [Array.size_append, Array.size_append, Array.size_append, cc_size, tabv_size, tabv_size, tabv_size] at this
    simpa [fcu, Array.append_assoc] using this
theorem tab_size : (Try.prog.info? 136).map (·.size) = some 256 := size26
theorem tabv_one (p : Nat) : (tabv p).all (·.oneCell') = true := tabk_one p 256
def kcells : Array Value := #[.int .u32 (poly 0 : Nat), .int .u32 (poly 1 : Nat), .int .u32 (poly 2 : Nat), .int .u32 (poly 3 : Nat)]
theorem kcells_get (k : Nat) (h : k < 4) : kcells[k]? = some (.int .u32 (poly k : Nat)) := by
  have hk4 : k = 0 ∨ k = 1 ∨ k = 2 ∨ k = 3 := by omega
  rcases hk4 with rfl | rfl | rfl | rfl <;> rfl
set_option maxRecDepth 100000 in
set_option maxHeartbeats 4000000 in
theorem new_ok (c : Cf) (w : World) (h : cok c = true) : Calls Try.prog 17 #[.agg (cc c)] w fun e w' => ∃ gf, e = .returned (.tuple #[.pointer (some ⟨gf, 0, none⟩), .int .i64 0]) ∧ w.heap.size ≤ gf ∧ At w' gf 139 (fc c) ∧ Below w.heap.size w w' := by
  have H := Lib.hid (chk_yes c h)
  go_enter Try.func17, Try.ntmps17
  go_wp2_with fail
  refine (check_any c _).mono ?_
  rintro e w1 ⟨rfl, hb⟩
  rw [H.out]
  have hA := (At.new w 27 (cc c)).below hb (by simp)
  have HB := Lib.hid (step_below ((Below.refl _ w).alloc (Nat.le_refl _) _) hb)
  have hr := hA.row
  have ho := hA.open
  have hl := hA.lt
  clear hA hb
  go_wp2_with fail
  rw [fam_start]
  refine (known_any _).mono ?_
  rintro e w2 ⟨rfl, rfl⟩
  have hF := (At.new w1 139 (fcu c 0)).alloc (.cells kcells 25)
  have hT := (show At ((w1.alloc (.cells (fcu c 0) 139)).alloc (.cells kcells 25)) (w1.heap.size + 1) 25 kcells from at_new _ _ _ _ (by simp))
  have hB2 := ((HB.out.alloc HB.out.size (.cells (fcu c 0) 139)).alloc (by have := HB.out.size; simp; omega) (.cells kcells 25))
  unfold kcells at hF hT hB2
  obtain ⟨w2, hw2⟩ : ∃ w2, w2 = (w1.alloc (.cells (fcu c 0) 139)).alloc (.cells #[.int .u32 (poly 0 : Nat), .int .u32 (poly 1 : Nat), .int .u32 (poly 2 : Nat), .int .u32 (poly 3 : Nat)] 25) := ⟨_, rfl⟩
  rw [← hw2] at hF hT hB2
  rw [← hw2, World.size_alloc]
  obtain ⟨gf, hgf⟩ : ∃ g, g = w1.heap.size := ⟨_, rfl⟩
  obtain ⟨gk, hgk⟩ : ∃ g, g = w1.heap.size + 1 := ⟨_, rfl⟩
  have hne : ¬ gk = gf := by omega
  have hwf : w.heap.size ≤ gf := by have := HB.out.size; omega
  rw [← hgk] at hT
  rw [← hgf] at hF
  rw [← hgk, ← hgf]
  have HF := Lib.hid hF
  have HT := Lib.hid (show At w2 gk 25 kcells from hT)
  have HB2 := Lib.hid hB2
  clear hF hT hB2 hw2 hgf hgk hr ho hl
  go_wp2_with fail
  go_loopw [6, 7, 18] (fun _ _ i wr => ∃ k : Nat, k ≤ 4 ∧ i = .int .i64 k ∧ At wr gf 139 (fcu c k) ∧ At wr gk 25 kcells ∧ Below w.heap.size w wr) (fun _ _ i _ => 4 - (intOf i).toNat)
  case atStart => exact ⟨0, by omega, rfl, HF.out, HT.out, HB2.out⟩
  case round =>
    obtain ⟨k, hk, rfl, hf, ht, hb⟩ := hrel
    have HF3 := Lib.hid hf
    have HT3 := Lib.hid ht
    have HB3 := Lib.hid hb
    clear hf ht hb
    by_cases hlt : k < 4
    · have hc := HT3.out.cell k
      rw [kcells_get k hlt] at hc
      have hl := HT3.out.lt
      have hfl := HF3.out.lt
      have hpl := poly_lt k
      go_wp2_with fail
      refine region_sq (fun i => i = gf) [(0, true), (1, true), (2, true), (4, true), (5, true), (3, false), (6, true), (7, false)] (by kernel_rfl) (by kernel_rfl) (fun _ _ d _ _ h => by cases d <;> exact h) ?_
      repeat (first
        | (refine sq_yes rfl (by rfl) (fun w' hM => by ((try replace hM := hM.of_drew); obtain ⟨hR1, hR2, hR3⟩ := hM.rules; clear hM; go_simp; with_reducible rfl)) ?_; simp only [Act.put, List.setIfInBounds_toArray, List.set_cons_zero, List.set_cons_succ])
        | (refine sq_no rfl (by rfl) ?_; simp only [Act.put, List.setIfInBounds_toArray, List.set_cons_zero, List.set_cons_succ]))
      refine sq_do_yes rfl (by rfl) (fun K hK => ?_)
      go_wp2_with fail
      refine (make_any (poly k) hpl _).mono ?_
      rintro e w4 ⟨rfl, rfl⟩
      go_wp2_with fail
      refine ⟨Mod.alloc_drew _ _, ?_⟩
      repeat (first
        | (refine sq_yes rfl (by rfl) (fun w' hM => by ((try replace hM := hM.of_drew); obtain ⟨hR1, hR2, hR3⟩ := hM.rules; clear hM; go_simp; with_reducible rfl)) ?_; simp only [Act.put, List.setIfInBounds_toArray, List.set_cons_zero, List.set_cons_succ])
        | (refine sq_no rfl (by rfl) ?_; simp only [Act.put, List.setIfInBounds_toArray, List.set_cons_zero, List.set_cons_succ]))
      refine sq_do_yes rfl (by rfl) (fun K hK => ?_)
      refine wp_store_agg gf (48 + k * 256) 139 (fcu c k) (tabv (poly k)) ((HF3.out.alloc _).drew) (by rw [fcu_size, tabv_size]; omega) (by rw [tabv_size]; exact size26) (tabv_one _) rfl rfl rfl ?_
      refine hK _ _ ⟨Mod.setCells (M := fun i => i = gf) rfl _ _ _, ?_⟩
      simp only [Act.put]
      refine sq_end ?_
      have HF4 := Lib.hid (At.setCells (tabv (poly k)).toList (48 + k * 256) _ _ (HF3.out.alloc (.cells (tabv (poly k)) 136)).drew)
      have HT4 := Lib.hid ((HT3.out.alloc (.cells (tabv (poly k)) 136)).drew.mod (Mod.setCells (M := fun i => i = gf) rfl (tabv (poly k)).toList (48 + k * 256) _) hne)
      have HB4 := Lib.hid ((HB3.out.alloc HB3.out.size (.cells (tabv (poly k)) 136)).drew.trans (mod_below (Mod.setCells (M := fun i => i = gf) rfl (tabv (poly k)).toList (48 + k * 256) _) ((HB3.out.alloc HB3.out.size (.cells (tabv (poly k)) 136)).drew).size (fun j hj => by omega)))
      generalize (wr.alloc (.cells (tabv (poly k)) 136)).drew.setCells gf (48 + k * 256) (tabv (poly k)).toList = w5 at *
      rw [fcu_step c k hlt] at HF4
      go_wp2_with fail
      go_roundw
      case rel => exact ⟨k + 1, by omega, by go_num, HF4.out, HT4.out, HB4.out⟩
      case measure => simp [intOf]; omega
    · obtain rfl : k = 4 := by omega
      go_wp2_with fail
      go_ret2
      exact ⟨gf, rfl, hwf, by rw [← fcu_4]; exact HF3.out, HB3.out⟩
end Go.Proofs.Ythfgccibiajneaa
