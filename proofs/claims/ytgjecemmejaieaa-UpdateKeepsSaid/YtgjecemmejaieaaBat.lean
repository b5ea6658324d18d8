/-
  Texts in one, each behind those that it needs: PoRfFill, PoRfPool, PoRfRes.
-/
import Derived.Test.YtgjecemmejaieaaBas
/-
  The document's Fill.
-/
namespace Go.Proofs.Ytgjecemmejaieaa
open Go.RowKit Go.Shelf
abbrev ebl (b : Bool) : List Value := [.bool b]
theorem ebl_len (b : Bool) : (ebl b).length = 1 := rfl
theorem infoBl : (Try.prog.info? 4).map (fun i => (i.zero, i.size, i.bytes)) = some (some (.bool false), 1, 1) := by kernel_rfl
theorem makeBl (n : Nat) (hn : n ≤ 4096) (w : World) : (Instr.makeSlice 137 (.int .i64 (n : Int)) (.int .i64 (n : Int))).run Try.prog w = .ok (.slice (some ⟨w.heap.size, 0, none⟩) n n) (w.alloc (.cells ((List.replicate n false).flatMap ebl).toArray 4)) := by
  obtain ⟨i0, hi, hz0, hz1, hz2⟩ := info_parts infoBl
  have := run_make (P := Try.prog) w 137 4 i0 _ Try.underlying137 hi hz0 .i64 .i64 n n (by omega) (by omega) (by rw [hz2]; omega) (by omega)
  rw [hz1, Int.toNat_natCast] at this
  rw [this, show (Value.bool false).cells = (ebl false).toArray from rfl, made_flat ebl_len (by omega)]
/-- A bool of a row of one's own: its cell. -/
theorem Sl.bl {w : World} {B n c g : Nat} {L : List Bool} {x : Bool} {i : Nat} (h : Sl 1 ebl 4 w B (.slice (some ⟨g, 0, none⟩) n c) L) (hx : L[i]? = some x) : g < w.heap.size ∧ w.cell? ⟨g, i, none⟩ = some (.bool x) ∧ w.frozen? ⟨g, i, none⟩ = false := by
  obtain ⟨hr, _, _⟩ := h.rd ebl_len
  obtain ⟨b, o, hab, hlt, hc⟩ := hr.2 (by have := (List.getElem?_eq_some_iff.1 hx).1; rw [hr.1] at this; omega)
  simp only [Option.some.injEq, Addr.mk.injEq, and_true] at hab
  obtain ⟨rfl, rfl⟩ := hab
  have := hc i x hx 0 (by omega)
  rw [Nat.zero_add, Nat.mul_one, Nat.add_zero] at this
  refine ⟨hlt, this, ?_⟩
  rcases h.cases with ⟨h1, _⟩ | ⟨g', c', cur, h1, h2, h3, _⟩
  · simp at h1
  · simp only [Value.slice.injEq, Option.some.injEq, Addr.mk.injEq, and_true] at h1
    obtain ⟨rfl, _, _⟩ := h1
    exact h3.frozen i
theorem Sl.setBl {w : World} {B n c g : Nat} {L : List Bool} (h : Sl 1 ebl 4 w B (.slice (some ⟨g, 0, none⟩) n c) L) (i : Nat) (x : Bool) (hi : i < L.length) : Sl 1 ebl 4 (w.setCell ⟨g, i, none⟩ (.bool x)) B (.slice (some ⟨g, 0, none⟩) n c) (L.set i x) := by
  have := Sl.set ebl_len (x := x) hi h
  rw [Nat.mul_one] at this
  exact this
/-- Is the i-th left open by the first phase? -/
def opn1 (O : List Dp) (M : List Mb) (n i : Nat) : Bool := decide ((f1s O M n i).left.getD (fAt O M i) 0 = 0)
def opP (O : List Dp) (M : List Mb) (n i : Nat) : List Nat := (List.range i).filter (opn1 O M n)
theorem f1s_opn (O : List Dp) (M : List Mb) (n : Nat) : ∀ j, (f1s O M n j).opn = opP O M n j
  | 0 => rfl
  | j + 1 => by
    unfold opP
    rw [f1s, List.range_succ, List.filter_append, ← opP, ← f1s_opn O M n j]
    by_cases h : (f1s O M n j).left.getD (fAt O M j) 0 = 0
    · rw [f1_open h]
      have : opn1 O M n j = true := by unfold opn1; simpa using h
      simp [this]
    · rw [f1_gave h]
      have : opn1 O M n j = false := by unfold opn1; simpa using h
      simp [this]
theorem opP_succ (O : List Dp) (M : List Mb) (n i : Nat) : opP O M n (i + 1) = opP O M n i ++ (if opn1 O M n i then [i] else []) := by
  unfold opP
  rw [List.range_succ, List.filter_append]
  cases h : opn1 O M n i <;> simp [h]
theorem opP_len_le (O : List Dp) (M : List Mb) (n : Nat) {i j : Nat} (h : i ≤ j) : (opP O M n i).length ≤ (opP O M n j).length := by
  obtain ⟨d, rfl⟩ := Nat.exists_eq_add_of_le h
  induction d with
  | zero => exact Nat.le_refl _
  | succ d ih =>
    have := ih (by omega)
    rw [show i + (d + 1) = (i + d) + 1 by omega, opP_succ, List.length_append]
    omega
theorem f1s_nil (M : List Mb) (n : Nat) (hl : (sharesOf M n).length = M.length) : ∀ j, f1s [] M n j = ⟨sharesOf M n, List.replicate n dp0, List.range j⟩
  | 0 => rfl
  | j + 1 => by
    rw [f1s, f1s_nil M n hl j, f1_open, List.range_succ]
    unfold fAt
    rw [if_pos (show ([] : List Dp).length = 0 from rfl), List.getD_eq_getElem?_getD, List.getElem?_eq_none (by rw [hl]; exact Nat.le_refl _)]; rfl
theorem opn1_nil (M : List Mb) (n : Nat) (hl : (sharesOf M n).length = M.length) (i : Nat) : opn1 [] M n i = true := by
  unfold opn1
  rw [f1s_nil M n hl, decide_eq_true_iff]
  unfold fAt
  rw [if_pos (show ([] : List Dp).length = 0 from rfl), List.getD_eq_getElem?_getD, List.getElem?_eq_none (by simp only; rw [hl]; exact Nat.le_refl _)]; rfl
/-- Which are kept behind j of the first phase; behind i of the second. -/
def kp (O : List Dp) (M : List Mb) (n j : Nat) : List Bool := (List.range n).map fun i => decide (i < j) && !opn1 O M n i
def kq (O : List Dp) (M : List Mb) (n i : Nat) : List Bool := (List.range n).map fun z => decide (z < i) || !opn1 O M n z
theorem kp_get {O : List Dp} {M : List Mb} {n j i : Nat} (h : i < n) : (kp O M n j)[i]? = some (decide (i < j) && !opn1 O M n i) := by unfold kp; rw [List.getElem?_map, List.getElem?_range h, Option.map_some]
theorem kq_get {O : List Dp} {M : List Mb} {n j i : Nat} (h : i < n) : (kq O M n j)[i]? = some (decide (i < j) || !opn1 O M n i) := by unfold kq; rw [List.getElem?_map, List.getElem?_range h, Option.map_some]
theorem kp_len (O : List Dp) (M : List Mb) (n j : Nat) : (kp O M n j).length = n := by simp [kp]
theorem kq_len (O : List Dp) (M : List Mb) (n j : Nat) : (kq O M n j).length = n := by simp [kq]
theorem kp_zero (O : List Dp) (M : List Mb) (n : Nat) : kp O M n 0 = List.replicate n false := by
  rw [List.eq_replicate_iff]
  refine ⟨kp_len _ _ _ _, fun b hb => ?_⟩
  obtain ⟨i, _, rfl⟩ := List.mem_map.1 hb
  simp
theorem kp_kq (O : List Dp) (M : List Mb) (n : Nat) : kp O M n n = kq O M n 0 := by
  unfold kp kq
  refine List.map_congr_left fun i hi => ?_
  rw [decide_eq_true (List.mem_range.1 hi)]
  simp
theorem kp_open {O : List Dp} {M : List Mb} {n j : Nat} (h : opn1 O M n j = true) : kp O M n (j + 1) = kp O M n j := by
  unfold kp
  refine List.map_congr_left fun i hi => ?_
  by_cases e : i = j
  · subst e; rw [h]; simp
  · congr 1; rw [decide_eq_decide]; omega
theorem kp_gave {O : List Dp} {M : List Mb} {n j : Nat} (hj : j < n) (h : opn1 O M n j = false) : kp O M n (j + 1) = (kp O M n j).set j true := by
  apply List.ext_getElem?
  intro i
  rw [List.getElem?_set, kp_len]
  by_cases hi : i < n
  · rw [kp_get hi, kp_get hi]
    by_cases e : j = i
    · subst e; rw [if_pos rfl, if_pos hi, h]; simp
    · rw [if_neg e]; congr 2; rw [decide_eq_decide]; omega
  · rw [List.getElem?_eq_none (by rw [kp_len]; omega), List.getElem?_eq_none (by rw [kp_len]; omega)]
    rw [if_neg (show ¬ j = i by omega)]
theorem kq_kept {O : List Dp} {M : List Mb} {n j : Nat} (h : opn1 O M n j = false) : kq O M n (j + 1) = kq O M n j := by
  unfold kq
  refine List.map_congr_left fun i hi => ?_
  by_cases e : i = j
  · subst e; rw [h]; simp
  · congr 1; rw [decide_eq_decide]; omega
theorem kq_gave {O : List Dp} {M : List Mb} {n j : Nat} (hj : j < n) : kq O M n (j + 1) = (kq O M n j).set j true := by
  apply List.ext_getElem?
  intro i
  rw [List.getElem?_set, kq_len]
  by_cases hi : i < n
  · rw [kq_get hi, kq_get hi]
    by_cases e : j = i
    · subst e; rw [if_pos rfl, if_pos hi]; simp
    · rw [if_neg e]; congr 2; rw [decide_eq_decide]; omega
  · rw [List.getElem?_eq_none (by rw [kq_len]; omega), List.getElem?_eq_none (by rw [kq_len]; omega)]
    rw [if_neg (show ¬ j = i by omega)]
/-- The second phase, the first i through. -/
def g2 (O : List Dp) (M : List Mb) (n i : Nat) : List Int × List Dp := f2s M ((f1s O M n n).left, (f1s O M n n).out) (opP O M n i)
theorem g2_kept {O : List Dp} {M : List Mb} {n i : Nat} (h : opn1 O M n i = false) : g2 O M n (i + 1) = g2 O M n i := by unfold g2; rw [opP_succ, h]; simp
theorem g2_gave {O : List Dp} {M : List Mb} {n i : Nat} (h : opn1 O M n i = true) : g2 O M n (i + 1) = f2 M (g2 O M n i) i := by unfold g2; rw [opP_succ, h]; simp [f2s_snoc]
theorem g2_end (O : List Dp) (M : List Mb) (n : Nat) : (g2 O M n n).2 = fillOf O M n := by unfold g2 fillOf; rw [f1s_opn]
theorem g2_facts {O : List Dp} {M : List Mb} {n : Nat} (hM : (sharesOf M n).length = M.length ∧ (sharesOf M n).sum = n ∧ ∀ x ∈ sharesOf M n, 0 ≤ x) : ∀ i, i ≤ n →
    (g2 O M n i).1.length = M.length ∧ (g2 O M n i).2.length = n ∧ (∀ x ∈ (g2 O M n i).1, 0 ≤ x) ∧ (g2 O M n i).1.sum = (opP O M n n).length - (opP O M n i).length
  | 0, _ => by
    obtain ⟨h1, h2, h3, h4, _⟩ := f1s_facts O M n hM n (Nat.le_refl _)
    have e : g2 O M n 0 = ((f1s O M n n).left, (f1s O M n n).out) := by simp [g2, opP, f2s]
    rw [e]
    refine ⟨h1, h2, h3, ?_⟩
    simp only
    rw [h4, f1s_opn]
    simp [opP]
  | i + 1, hi => by
    obtain ⟨h1, h2, h3, h4⟩ := g2_facts (O := O) hM i (by omega)
    cases h : opn1 O M n i with
    | false =>
      rw [g2_kept h]
      refine ⟨h1, h2, h3, ?_⟩
      rw [h4, opP_succ, h]; simp
    | true =>
      have hlt : (opP O M n i).length < (opP O M n n).length := by
        have := opP_len_le O M n hi
        rw [opP_succ, h] at this
        simp at this
        omega
      have hz : Zr (nx (g2 O M n i).1) (g2 O M n i).1 ∧ (g2 O M n i).1.getD (nx (g2 O M n i).1) 0 ≠ 0 := by
        have hs : (g2 O M n i).1.sum ≠ 0 := by rw [h4]; omega
        have hex : ∃ x ∈ (g2 O M n i).1, decide (x ≠ 0) = true := Classical.byContradiction fun hn => hs (sum_zero _ fun q => by
          by_cases hq : q < (g2 O M n i).1.length
          · rw [List.getD_eq_getElem?_getD, List.getElem?_eq_getElem hq]
            exact Classical.byContradiction fun hne => hn ⟨_, List.getElem_mem hq, by simpa using hne⟩
          · rw [List.getD_eq_getElem?_getD, List.getElem?_eq_none (by omega)]; rfl)
        have hl : nx (g2 O M n i).1 < (g2 O M n i).1.length := List.findIdx_lt_length.2 hex
        refine ⟨fun q hq => ?_, ?_⟩
        · have := List.not_of_lt_findIdx (show q < List.findIdx (fun x => decide (x ≠ 0)) (g2 O M n i).1 from hq)
          rw [List.getD_eq_getElem?_getD, List.getElem?_eq_getElem (by omega)]
          simpa using this
        · have h := List.findIdx_getElem (p := fun x : Int => decide (x ≠ 0)) (xs := (g2 O M n i).1) (w := hl)
          rw [decide_eq_true_iff] at h
          rw [List.getD_eq_getElem?_getD, List.getElem?_eq_getElem hl]
          exact h
      have hg := gave hz.2 h3
      rw [g2_gave h]
      unfold f2
      refine ⟨by simp [h1], by simp [h2], hg.2, ?_⟩
      simp only
      rw [hg.1, h4, opP_succ, h]
      simp
      omega
set_option maxRecDepth 100000 in
set_option maxHeartbeats 8000000 in
theorem rfill_any (ao am : Option Addr) (no co nm cm n : Nat) (O : List Dp) (M : List Mb) (w : World) (hO : Rd 18 Dp.l w ao no O) (hM : Rd 19 Mb.l w am nm M) (hok : mOk M = true) (h1 : 1 ≤ n) (h2 : n ≤ 64) (h3 : no = 0 ∨ no = n) :
    Calls Try.prog 48 #[.slice ao no co, .slice am nm cm, .int .i64 n] w fun e w' => ∃ v, e = .returned (.tuple #[v, .int .i64 0]) ∧ Sl 18 Dp.l 88 w' w.heap.size v (fillR O M n) ∧ Below w.heap.size w w' := by
  have HM := Lib.hid hM
  have HO := Lib.hid hO
  have HM0 := Lib.hid hM
  have HO0 := Lib.hid hO
  have HLM := Lib.hid hM.1
  have HLO := Lib.hid hO.1
  have hl32 : nm ≤ 32 := by have := (mOk_w hok).1; rw [hM.1] at this; exact this
  have HOK := Lib.hid hok
  have d1 : decide ((n : Int) < 1) = false := by simp; omega
  have d2 : decide (64 < (n : Int)) = false := by simp; omega
  have H3 := Lib.hid h3
  clear hM hO hok
  go_enter Try.func48, Try.ntmps48
  go_upto_region 1 with fail
  go_cut [15, 16, 17, 18, 19, 20, 21, 22, 23, 24, 25, 26, 27, 28, 29, 30, 31, 32, 33, 34, 35, 36] (fun _ _ _ _ _ _ _ _ _ _ _ _ _ _ _ _ _ _ _ _ _ s36 wx => s36 = .bool false ∧ Below w.heap.size w wx)
  case first =>
    go_wp2_with fail
    refine (rmembers_any am nm cm M _ HM.out (by omega)).mono ?_
    rintro e w1 ⟨rfl, hb⟩
    rw [HOK.out]
    have HB1 := Lib.hid hb
    clear hb
    rcases h3 with rfl | rfl
    · go_wp2_with fail
      go_meet
      exact ⟨rfl, HB1.out⟩
    · have d3 : ((no : Int) != 0) = true := by simp; omega
      have d4 : ((no : Int) != (no : Int)) = false := by simp
      go_wp2_with fail
      go_meet
      exact ⟨rfl, HB1.out⟩
  case rest =>
    obtain ⟨rfl, hb⟩ := hcut
    replace HO := Lib.hid (HO.out.below hb)
    replace HM := Lib.hid (HM.out.below hb)
    have HB := Lib.hid hb
    clear hb d1 d2 h3
    by_cases hnm : nm = 0
    · subst hnm
      have HR := Lib.hid (show fillR O M n = [] by unfold fillR; rw [if_pos HLM.out])
      go_wp2_with fail
      go_ret2
      exact ⟨_, rfl, by rw [HR.out]; exact Sl.nil _ _ _ _ _, HB.out⟩
    have HR := Lib.hid (show fillR O M n = fillOf O M n by unfold fillR; rw [if_neg (by rw [HLM.out]; exact hnm)])
    have hd : ((nm : Int) == 0) = false := by simp; omega
    have h0 : 0 < nm := by omega
    have HF := Lib.hid (sharesOf_facts (L := M) (n := n) HOK.out (by rw [HLM.out]; exact h0))
    clear hnm
    go_wp2_with fail
    clear hd
    refine (rshares_any am nm cm M n _ HM.out HOK.out h0 h2).mono ?_
    rintro e w2 ⟨v, rfl, hs, hb⟩
    have HWS := Lib.hid (show w.heap.size ≤ wc.heap.size from HB.out.size)
    replace HO := Lib.hid (HO.out.below hb)
    replace HM := Lib.hid (HM.out.below hb)
    replace HB := Lib.hid (step_below HB.out hb)
    obtain ⟨al, cl, rfl⟩ := hs.form
    have hlen : (sharesOf M n).length = nm := by rw [HF.out.1, HLM.out]
    rw [hlen] at hs ⊢
    obtain ⟨gl, rfl, hx1, hx2, hgl, hgl2, hx3⟩ := hs.int (i := 0) (List.getElem?_eq_getElem (by omega))
    have HSL := Lib.hid (hs.base HWS.out)
    replace hgl : w.heap.size ≤ gl := Nat.le_trans HWS.out hgl
    clear hs hb hx1 hx2 hx3 hlen
    have hmk := makeDp n (by omega)
    have hmb := makeBl n (by omega)
    go_wp2_with fail
    clear hmk hmb
    obtain ⟨go, hgo⟩ : ∃ go, go = w2.heap.size := ⟨_, rfl⟩
    rw [← hgo]
    have hat := at_new w2 88 ((List.replicate n dp0).flatMap Dp.l).toArray go hgo
    have HRE := Lib.hid (Sl.of (B := w.heap.size) (L := List.replicate n dp0) Dp.l_length hat (by rw [hgo]; exact HB.out.size) (by simp) (by rw [List.length_replicate]; unfold maxLen; omega))
    rw [List.length_replicate] at HRE
    have hg1 : gl ≠ go := by omega
    have hgow : w.heap.size ≤ go := by rw [hgo]; exact HB.out.size
    replace HB := Lib.hid (HB.out.alloc HB.out.size (.cells ((List.replicate n dp0).flatMap Dp.l).toArray 88))
    replace HSL := Lib.hid (HSL.out.alloc (.cells ((List.replicate n dp0).flatMap Dp.l).toArray 88))
    replace HO := Lib.hid (HO.out.alloc (.cells ((List.replicate n dp0).flatMap Dp.l).toArray 88))
    replace HM := Lib.hid (HM.out.alloc (.cells ((List.replicate n dp0).flatMap Dp.l).toArray 88))
    have hsz : (w2.alloc (.cells ((List.replicate n dp0).flatMap Dp.l).toArray 88)).heap.size = go + 1 := by rw [hgo]; simp
    clear hat hgo hgl2
    generalize w2.alloc (.cells ((List.replicate n dp0).flatMap Dp.l).toArray 88) = W1 at *
    obtain ⟨gk, hgk⟩ : ∃ gk, gk = go + 1 := ⟨_, rfl⟩
    rw [← hgk]
    have hat := at_new W1 4 ((List.replicate n false).flatMap ebl).toArray gk (by rw [hgk, hsz])
    have HKP := Lib.hid (Sl.of (B := w.heap.size) (L := List.replicate n false) ebl_len hat (by omega) (by simp) (by rw [List.length_replicate]; unfold maxLen; omega))
    rw [List.length_replicate, ← kp_zero O M n] at HKP
    have hg2 : go ≠ gk := by omega
    have hg3 : gl ≠ gk := by have := (HSL.out.ge (g := gl) rfl).2; omega
    have hgkw : w.heap.size ≤ gk := by omega
    replace HB := Lib.hid (HB.out.alloc HB.out.size (.cells ((List.replicate n false).flatMap ebl).toArray 4))
    replace HSL := Lib.hid (HSL.out.alloc (.cells ((List.replicate n false).flatMap ebl).toArray 4))
    replace HRE := Lib.hid (HRE.out.alloc (.cells ((List.replicate n false).flatMap ebl).toArray 4))
    rw [kp_zero O M n] at HKP
    clear hat hgk hsz HO HM
    generalize W1.alloc (.cells ((List.replicate n false).flatMap ebl).toArray 4) = W2 at *
    rw [← kp_zero O M n] at HKP
    go_loopw [11, 12] (fun s11 _ wx => ∃ j : Nat, s11 = .int .i64 (j : Nat) ∧ j ≤ no ∧ Sl 1 ei 3 wx w.heap.size (.slice (some ⟨gl, 0, none⟩) nm cl) (f1s O M n j).left ∧ Sl 18 Dp.l 88 wx w.heap.size (.slice (some ⟨go, 0, none⟩) n n) (f1s O M n j).out ∧ Sl 1 ebl 4 wx w.heap.size (.slice (some ⟨gk, 0, none⟩) n n) (kp O M n j) ∧ Below w.heap.size w wx) (fun s11 _ _ => no - (intOf s11).toNat)
    case atStart => exact ⟨0, rfl, Nat.zero_le _, HSL.out, HRE.out, HKP.out, HB.out⟩
    case round =>
      clear HSL HRE HKP HB
      obtain ⟨j, rfl, hj, hsl, hre, hkp, hb⟩ := hrel
      have HSL := Lib.hid hsl
      have HRE := Lib.hid hre
      have HKP := Lib.hid hkp
      have HB := Lib.hid hb
      clear hsl hre hkp hb
      by_cases hlt : j < no
      · have hltz : (j : Int) < (no : Int) := by omega
        have hltd : decide (j < no) = true := by simpa using hlt
        have hnn : no = n := by have := H3.out; omega
        have HFF := Lib.hid (f1s_facts O M n HF.out j (by omega))
        obtain ⟨y, hy⟩ : ∃ y, O[j]? = some y := ⟨_, List.getElem?_eq_getElem (by rw [HLO.out]; exact hlt)⟩
        have HY := Lib.hid hy
        have HYD := Lib.hid (getD_of (d := dp0) hy)
        obtain ⟨b, o, rfl, hbl, ha, hao⟩ := (HO0.out.below HB.out).agg Dp.l_length hy
        rw [show (Dp.l y).toArray = dc y from rfl] at ha
        have hjn : (j : Int) < (n : Int) := by omega
        have hjnn : j < n := by omega
        have HFA := Lib.hid (show fAt O M j = M.findIdx (fun x => decide (x.d = y)) by unfold fAt; rw [if_neg (by rw [HLO.out]; omega), HYD.out])
        clear hy hnn
        go_wp2_with fail
        refine (place_dp am nm cm M y _ (HM0.out.below HB.out) hl32).mono ?_
        rintro e w5 ⟨hb5, hc⟩
        replace HSL := Lib.hid (HSL.out.below hb5)
        replace HRE := Lib.hid (HRE.out.below hb5)
        replace HKP := Lib.hid (HKP.out.below hb5)
        replace HB := Lib.hid (step_below HB.out hb5)
        clear hb5 ha hao hbl
        rcases hc with ⟨rfl, hnone⟩ | ⟨k, z, rfl, hk, hz, hkz⟩
        · have HOP := Lib.hid (show (f1s O M n j).left.getD (fAt O M j) 0 = 0 by
            rw [HFA.out, findIdx_none hnone, List.getD_eq_getElem?_getD, List.getElem?_eq_none (by rw [HFF.out.1]; exact Nat.le_refl _)]; rfl)
          clear hnone
          go_wp2_with fail
          go_roundw
          case rel =>
            have e := f1_open (O := O) HOP.out
            have ho : opn1 O M n j = true := by unfold opn1; simpa using HOP.out
            exact ⟨j + 1, by go_num, by omega, by rw [f1s, e]; exact HSL.out, by rw [f1s, e]; exact HRE.out, by rw [kp_open ho]; exact HKP.out, HB.out⟩
          case measure => simp [intOf] <;> omega
        · have hkm : k < nm := by have := (List.getElem?_eq_some_iff.1 hk).1; rw [HLM.out] at this; exact this
          have hkmz : (k : Int) < (nm : Int) := by omega
          have HFK := Lib.hid (show fAt O M j = k by rw [HFA.out]; exact findIdx_of hk hz hkz)
          obtain ⟨x, hx⟩ : ∃ x, (f1s O M n j).left[k]? = some x := ⟨_, List.getElem?_eq_getElem (by rw [HFF.out.1, HLM.out]; exact hkm)⟩
          have HX := Lib.hid hx
          have hx0 := HFF.out.2.2.1 x (List.mem_of_getElem? hx)
          have hx1 := (le_sum _ HFF.out.2.2.1).2 x (List.mem_of_getElem? hx)
          have hx2 : x ≤ 64 := by have h3 := HFF.out.2.2.2.1; have h4 := HFF.out.2.2.2.2.2; omega
          obtain ⟨g1, hg1', hcx1, hco, hcx2, hl1, c1⟩ := HSL.out.int hx
          obtain rfl : gl = g1 := by simpa using hg1'
          clear hk hz hkz hx hg1' hx1 hcx1 hcx2
          have hk0d : decide ((0 : Int) ≤ (k : Int)) = true := by simp
          by_cases hxz : x = 0
          · have hxd : decide (0 < x) = false := by simp; omega
            have HOP := Lib.hid (show (f1s O M n j).left.getD (fAt O M j) 0 = 0 by rw [HFK.out, getD_of HX.out]; exact hxz)
            clear hxz
            go_wp2_with fail
            go_roundw
            case rel =>
              have e := f1_open (O := O) HOP.out
              have ho : opn1 O M n j = true := by unfold opn1; simpa using HOP.out
              exact ⟨j + 1, by go_num, by omega, by rw [f1s, e]; exact HSL.out, by rw [f1s, e]; exact HRE.out, by rw [kp_open ho]; exact HKP.out, HB.out⟩
            case measure => simp [intOf] <;> omega
          · have hxp : 0 < x := by omega
            have hxd : decide (0 < x) = true := by simpa using hxp
            have HGV := Lib.hid (show ¬ (f1s O M n j).left.getD (fAt O M j) 0 = 0 by rw [HFK.out, getD_of HX.out]; exact hxz)
            have f1 := HSL.out.frozenS k
            clear hxz
            go_upto_region 14 with fail
            have HSL6 := Lib.hid (HSL.out.setInt k (x - 1) (by rw [HFF.out.1, HLM.out]; exact hkm))
            have HRE6 := Lib.hid (HRE.out.far (p := ⟨gl, k, none⟩) (by simp only [Value.ownBlock, ne_eq, Option.some.injEq]; omega) (.int .i64 (x - 1)))
            have HKP6 := Lib.hid (HKP.out.far (p := ⟨gl, k, none⟩) (by simp only [Value.ownBlock, ne_eq, Option.some.injEq]; omega) (.int .i64 (x - 1)))
            replace HB := Lib.hid (HB.out.setCell (p := ⟨gl, k, none⟩) hgl (.int .i64 (x - 1)))
            clear f1 c1 hl1
            generalize w5.setCell ⟨gl, k, none⟩ (.int .i64 (x - 1)) = W6 at *
            obtain ⟨b, o, hbo, hbl, ha, hao⟩ := (HO0.out.below HB.out).agg Dp.l_length HY.out
            simp only [Option.some.injEq, Addr.mk.injEq, and_true] at hbo
            obtain ⟨rfl, rfl⟩ := hbo
            rw [show (Dp.l y).toArray = dc y from rfl] at ha
            have hlo : (f1s O M n j).out.length = n := HFF.out.2.1
            have hst := HRE6.out.storeDp j y (by rw [hlo]; exact hjnn)
            have hS6 := HRE6.out.set (x := y) Dp.l_length (show j < (f1s O M n j).out.length by rw [hlo]; exact hjnn)
            rw [show Dp.l y = (dc y).toList from rfl] at hS6
            have HM6 := Mod.setCells (M := fun i => i = go) rfl (dc y).toList (j * 18) W6
            have HRE7 := Lib.hid hS6
            have HSL7 := Lib.hid (HSL6.out.mod HM6 (fun g hg e => by simp only [Value.ownBlock, Option.some.injEq] at hg; omega))
            have hkp7 := HKP6.out.mod HM6 (fun g hg e => by simp only [Value.ownBlock, Option.some.injEq] at hg; omega)
            have HB7 := Lib.hid (HB.out.trans (mod_below HM6 HB.out.size (fun g hg => by omega)))
            have f0 := (HRE6.out.frozenD (j * 18)).1
            have l4 := (HRE6.out.frozenD (j * 18)).2
            obtain ⟨lk, ck, fk⟩ := hkp7.bl (kp_get (j := j) hjnn)
            have HKP7 := Lib.hid hkp7
            clear hS6 HM6 hkp7 hlo
            go_wp2_with fail
            go_roundw
            case rel =>
              have e := f1_gave (O := O) HGV.out
              rw [HFK.out, getD_of HX.out, HYD.out] at e
              have ho : opn1 O M n j = false := by unfold opn1; simpa using HGV.out
              refine ⟨j + 1, by go_num, by omega, ?_, ?_, ?_, HB7.out.setCell (p := ⟨gk, j, none⟩) hgkw _⟩
              · rw [f1s, e]; exact HSL7.out.far (p := ⟨gk, j, none⟩) (by simp only [Value.ownBlock, ne_eq, Option.some.injEq]; omega) _
              · rw [f1s, e]; exact HRE7.out.far (p := ⟨gk, j, none⟩) (by simp only [Value.ownBlock, ne_eq, Option.some.injEq]; omega) _
              · rw [kp_gave hjnn ho]; exact HKP7.out.setBl j true (by rw [kp_len]; exact hjnn)
            case measure => simp [intOf] <;> omega
      · have hltz : ¬ (j : Int) < (no : Int) := by omega
        have hltd : decide (j < no) = false := by simpa using hlt
        obtain rfl : j = no := by omega
        replace HSL := Lib.hid (show Sl 1 ei 3 wr w.heap.size (.slice (some ⟨gl, 0, none⟩) nm cl) (g2 O M n 0).1 by
          show Sl 1 ei 3 wr w.heap.size (.slice (some ⟨gl, 0, none⟩) nm cl) (f1s O M n n).left
          rcases H3.out with h | h
          · have hO : O = [] := List.eq_nil_of_length_eq_zero (by rw [HLO.out]; exact h)
            have := HSL.out
            rw [hO, f1s_nil M n HF.out.1] at this ⊢
            exact this
          · have := HSL.out; rw [h] at this; exact this)
        replace HRE := Lib.hid (show Sl 18 Dp.l 88 wr w.heap.size (.slice (some ⟨go, 0, none⟩) n n) (g2 O M n 0).2 by
          show Sl 18 Dp.l 88 wr w.heap.size (.slice (some ⟨go, 0, none⟩) n n) (f1s O M n n).out
          rcases H3.out with h | h
          · have hO : O = [] := List.eq_nil_of_length_eq_zero (by rw [HLO.out]; exact h)
            have := HRE.out
            rw [hO, f1s_nil M n HF.out.1] at this ⊢
            exact this
          · have := HRE.out; rw [h] at this; exact this)
        replace HKP := Lib.hid (show Sl 1 ebl 4 wr w.heap.size (.slice (some ⟨gk, 0, none⟩) n n) (kq O M n 0) by
          rw [← kp_kq]
          rcases H3.out with h | h
          · have hO : O = [] := List.eq_nil_of_length_eq_zero (by rw [HLO.out]; exact h)
            have := HKP.out
            rw [show kp O M n n = kp O M n j by
              unfold kp
              refine List.map_congr_left fun i _ => ?_
              rw [hO, opn1_nil M n HF.out.1]; simp]
            exact this
          · have := HKP.out; rw [h] at this; exact this)
        clear hlt hj
        go_wp2_with fail
        go_loopw [13, 14] (fun s13 _ wx => ∃ i : Nat, s13 = .int .i64 (i : Nat) ∧ i ≤ n ∧ Sl 1 ei 3 wx w.heap.size (.slice (some ⟨gl, 0, none⟩) nm cl) (g2 O M n i).1 ∧ Sl 18 Dp.l 88 wx w.heap.size (.slice (some ⟨go, 0, none⟩) n n) (g2 O M n i).2 ∧ Sl 1 ebl 4 wx w.heap.size (.slice (some ⟨gk, 0, none⟩) n n) (kq O M n i) ∧ Below w.heap.size w wx) (fun s13 _ _ => n - (intOf s13).toNat)
        case atStart => exact ⟨0, rfl, Nat.zero_le _, HSL.out, HRE.out, HKP.out, HB.out⟩
        case round =>
          clear HSL HRE HKP HB
          obtain ⟨i, rfl, hi, hsl, hre, hkp, hb⟩ := hrel
          have HSL := Lib.hid hsl
          have HRE := Lib.hid hre
          have HKP := Lib.hid hkp
          have HB := Lib.hid hb
          clear hsl hre hkp hb
          by_cases hin : i < n
          · have hinz : (i : Int) < (n : Int) := by omega
            have HG := Lib.hid (g2_facts (O := O) HF.out i hi)
            have HG1 := Lib.hid (opP_len_le O M n (show i + 1 ≤ n from hin))
            go_wp2_with fail
            go_loopw [14] (fun s14 wx => ∃ k : Nat, s14 = .int .i64 (k : Nat) ∧ k ≤ nm ∧ Below w.heap.size w wx ∧
              ((opn1 O M n i = true ∧ k < nm ∧ Zr k (g2 O M n i).1 ∧ Sl 1 ei 3 wx w.heap.size (.slice (some ⟨gl, 0, none⟩) nm cl) (g2 O M n i).1 ∧ Sl 18 Dp.l 88 wx w.heap.size (.slice (some ⟨go, 0, none⟩) n n) (g2 O M n i).2 ∧ Sl 1 ebl 4 wx w.heap.size (.slice (some ⟨gk, 0, none⟩) n n) (kq O M n i)) ∨
               ((kq O M n (i + 1))[i]? = some true ∧ Sl 1 ei 3 wx w.heap.size (.slice (some ⟨gl, 0, none⟩) nm cl) (g2 O M n (i + 1)).1 ∧ Sl 18 Dp.l 88 wx w.heap.size (.slice (some ⟨go, 0, none⟩) n n) (g2 O M n (i + 1)).2 ∧ Sl 1 ebl 4 wx w.heap.size (.slice (some ⟨gk, 0, none⟩) n n) (kq O M n (i + 1))))) (fun s14 _ => nm - (intOf s14).toNat)
            case atStart =>
              refine ⟨0, rfl, Nat.zero_le _, HB.out, ?_⟩
              cases ho : opn1 O M n i with
              | true => exact .inl ⟨rfl, h0, Zr.zero _, HSL.out, HRE.out, HKP.out⟩
              | false => exact .inr ⟨by rw [kq_get hin]; simp, by rw [g2_kept ho]; exact HSL.out, by rw [g2_kept ho]; exact HRE.out, by rw [kq_kept ho]; exact HKP.out⟩
            case round =>
              clear HSL HRE HKP HB
              obtain ⟨k, rfl, hk, hb, ⟨ho, hkn, hz, hsl, hre, hkp⟩ | ⟨hkt, hsl, hre, hkp⟩⟩ := hrel
              · have HSL := Lib.hid hsl
                have HRE := Lib.hid hre
                have HKP := Lib.hid hkp
                have HB := Lib.hid hb
                have HO1 := Lib.hid ho
                have HZ := Lib.hid hz
                obtain ⟨lk, ck, fk⟩ := hkp.bl (kq_get (j := i) hin)
                rw [ho, decide_eq_false (Nat.lt_irrefl i)] at ck
                simp only [Bool.not_true, Bool.or_false] at ck
                clear hsl hre hkp hb ho hz
                have hknz : (k : Int) < (nm : Int) := by omega
                obtain ⟨x, hx⟩ : ∃ x, (g2 O M n i).1[k]? = some x := ⟨_, List.getElem?_eq_getElem (by rw [HG.out.1, HLM.out]; exact hkn)⟩
                have HX := Lib.hid hx
                have hx0 := HG.out.2.2.1 x (List.mem_of_getElem? hx)
                have hx1 := (le_sum _ HG.out.2.2.1).2 x (List.mem_of_getElem? hx)
                have hx2 : x ≤ 64 := by
                  have h3 := HG.out.2.2.2
                  have : (opP O M n n).length ≤ n := by unfold opP; exact Nat.le_trans (List.length_filter_le _ _) (by simp)
                  omega
                obtain ⟨g1, hg1', hcx1, hco, hcx2, hl1, c1⟩ := HSL.out.int hx
                obtain rfl : gl = g1 := by simpa using hg1'
                clear hx hg1' hx1 hcx1 hcx2
                by_cases hxz : x = 0
                · have hxd : decide (0 < x) = false := by simp; omega
                  have HXZ := Lib.hid hxz
                  clear hxz
                  go_wp2_with fail
                  go_roundw
                  case rel =>
                    have hz1 := HZ.out.succ (by rw [getD_of HX.out]; exact HXZ.out)
                    have hlt := hz1.lt (by
                      have h3 := HG.out.2.2.2
                      have h4 := HG1.out
                      rw [opP_succ, HO1.out] at h4
                      simp at h4
                      omega)
                    rw [HG.out.1, HLM.out] at hlt
                    exact ⟨k + 1, by go_num, by omega, HB.out, .inl ⟨HO1.out, hlt, hz1, HSL.out, HRE.out, HKP.out⟩⟩
                  case measure => simp [intOf] <;> omega
                · have hxp : 0 < x := by omega
                  have hxd : decide (0 < x) = true := by simpa using hxp
                  have HXZ := Lib.hid hxz
                  obtain ⟨m, hm⟩ : ∃ m, M[k]? = some m := ⟨_, List.getElem?_eq_getElem (by rw [HLM.out]; exact hkn)⟩
                  have HMM := Lib.hid hm
                  have f1 := HSL.out.frozenS k
                  clear hxz hm
                  go_upto_region 23 with fail
                  have HSL6 := Lib.hid (HSL.out.setInt k (x - 1) (by rw [HG.out.1, HLM.out]; exact hkn))
                  have HRE6 := Lib.hid (HRE.out.far (p := ⟨gl, k, none⟩) (by simp only [Value.ownBlock, ne_eq, Option.some.injEq]; omega) (.int .i64 (x - 1)))
                  have HKP6 := Lib.hid (HKP.out.far (p := ⟨gl, k, none⟩) (by simp only [Value.ownBlock, ne_eq, Option.some.injEq]; omega) (.int .i64 (x - 1)))
                  replace HB := Lib.hid (HB.out.setCell (p := ⟨gl, k, none⟩) hgl (.int .i64 (x - 1)))
                  clear f1 c1 hl1 lk ck fk
                  generalize wr.setCell ⟨gl, k, none⟩ (.int .i64 (x - 1)) = W6 at *
                  obtain ⟨b, o, rfl, hbl, ha, hao⟩ := (HM0.out.below HB.out).dip HMM.out
                  have hlo : (g2 O M n i).2.length = n := HG.out.2.1
                  have hst := HRE6.out.storeDp i m.d (by rw [hlo]; exact hin)
                  have hS6 := HRE6.out.set (x := m.d) Dp.l_length (show i < (g2 O M n i).2.length by rw [hlo]; exact hin)
                  rw [show Dp.l m.d = (dc m.d).toList from rfl] at hS6
                  have HM6 := Mod.setCells (M := fun i => i = go) rfl (dc m.d).toList (i * 18) W6
                  have HRE7 := Lib.hid hS6
                  have HSL7 := Lib.hid (HSL6.out.mod HM6 (fun g hg e => by simp only [Value.ownBlock, Option.some.injEq] at hg; omega))
                  have hkp7 := HKP6.out.mod HM6 (fun g hg e => by simp only [Value.ownBlock, Option.some.injEq] at hg; omega)
                  have HB7 := Lib.hid (HB.out.trans (mod_below HM6 HB.out.size (fun g hg => by omega)))
                  have f0 := (HRE6.out.frozenD (i * 18)).1
                  have l4 := (HRE6.out.frozenD (i * 18)).2
                  obtain ⟨lk, ck, fk⟩ := hkp7.bl (kq_get (j := i) hin)
                  have HKP7 := Lib.hid hkp7
                  clear hS6 HM6 hkp7 hlo
                  go_wp2_with fail
                  go_roundw
                  case rel =>
                    have hne : (g2 O M n i).1.getD k 0 ≠ 0 := by rw [getD_of HX.out]; exact HXZ.out
                    have e : g2 O M n (i + 1) = ((g2 O M n i).1.set k (x - 1), (g2 O M n i).2.set i m.d) := by
                      rw [g2_gave HO1.out]
                      unfold f2
                      rw [HZ.out.nx hne, getD_of HX.out, getD_of HMM.out]
                    refine ⟨k + 1, by go_num, by omega, HB7.out.setCell (p := ⟨gk, i, none⟩) hgkw _, .inr ⟨by rw [kq_get hin]; simp, ?_, ?_, ?_⟩⟩
                    · rw [e]; exact HSL7.out.far (p := ⟨gk, i, none⟩) (by simp only [Value.ownBlock, ne_eq, Option.some.injEq]; omega) _
                    · rw [e]; exact HRE7.out.far (p := ⟨gk, i, none⟩) (by simp only [Value.ownBlock, ne_eq, Option.some.injEq]; omega) _
                    · rw [kq_gave hin]; exact HKP7.out.setBl i true (by rw [kq_len]; exact hin)
                  case measure => simp [intOf] <;> omega
              · have HSL := Lib.hid hsl
                have HRE := Lib.hid hre
                have HKP := Lib.hid hkp
                have HB := Lib.hid hb
                obtain ⟨lk, ck, fk⟩ := hkp.bl hkt
                clear hsl hre hkp hb hkt
                by_cases hkn : k < nm
                · have hknz : (k : Int) < (nm : Int) := by omega
                  go_wp2_with fail
                  go_roundw
                  case rel => exact ⟨i + 1, by go_num, by omega, HSL.out, HRE.out, HKP.out, HB.out⟩
                  case measure => simp [intOf] <;> omega
                · have hknz : ¬ (k : Int) < (nm : Int) := by omega
                  go_wp2_with fail
                  go_roundw
                  case rel => exact ⟨i + 1, by go_num, by omega, HSL.out, HRE.out, HKP.out, HB.out⟩
                  case measure => simp [intOf] <;> omega
          · have hinz : ¬ (i : Int) < (n : Int) := by omega
            obtain rfl : i = n := by omega
            go_wp2_with fail
            go_ret2
            refine ⟨_, rfl, ?_, HB.out⟩
            rw [HR.out, ← g2_end]
            exact HRE.out
end Go.Proofs.Ytgjecemmejaieaa

/-
  The document's pool: the heap's picture; live, Ref, Unref, Refs, Serve, Slots.
-/
namespace Go.Proofs.Ytgjecemmejaieaa
open Go.RowKit Go.Shelf
def rpc (c : Cf) (l : Value) (now last : Nat) (mv : Value) : Array Value := cc c ++ #[l, .int .i64 (now : Nat), .int .i64 (last : Nat), mv]
@[go_sem] theorem rpc_size (c : Cf) (l : Value) (now last : Nat) (mv : Value) : (rpc c l now last mv).size = 52 := by simp [rpc, cc_size]
theorem rpc_hi (c : Cf) (l : Value) (now last : Nat) (mv : Value) (j : Nat) : (rpc c l now last mv)[48 + j]? = #[l, .int .i64 (now : Nat), .int .i64 (last : Nat), mv][j]? := by
  unfold rpc; rw [Array.getElem?_append_right (by rw [cc_size]; omega), cc_size]; congr 1; omega
theorem rpc_lo (c : Cf) (l : Value) (now last : Nat) (mv : Value) (j : Nat) (h : j < 48) : (rpc c l now last mv)[j]? = (cc c)[j]? := by
  unfold rpc; rw [Array.getElem?_append_left (by rw [cc_size]; exact h)]
theorem rpc_set (c : Cf) (l : Value) (now last : Nat) (mv u : Value) (j : Nat) : (rpc c l now last mv).setIfInBounds (48 + j) u = cc c ++ (#[l, .int .i64 (now : Nat), .int .i64 (last : Nat), mv].setIfInBounds j u) := by
  unfold rpc
  have : (cc c).size = 48 := cc_size c
  rw [Array.setIfInBounds_append_right (by omega), this]
  congr 2
  omega
theorem rpc_now (c : Cf) (l : Value) (now now' last : Nat) (mv : Value) : (rpc c l now last mv).setIfInBounds 49 (.int .i64 (now' : Nat)) = rpc c l now' last mv := rpc_set c l now last mv _ 1
theorem rpc_last (c : Cf) (l : Value) (now last last' : Nat) (mv : Value) : (rpc c l now last mv).setIfInBounds 50 (.int .i64 (last' : Nat)) = rpc c l now last' mv := rpc_set c l now last mv _ 2
theorem rpc_m (c : Cf) (l : Value) (now last : Nat) (mv mv' : Value) : (rpc c l now last mv).setIfInBounds 51 mv' = rpc c l now last mv' := rpc_set c l now last mv _ 3
/-- A version of the document's. -/
structure RV where
  lv : Bool
  res : Bool
  refs : Nat
  sv : Value
  S : List Dp
abbrev RV.l (v : RV) : List Value := [.bool v.lv, .bool v.res, .int .i64 (v.refs : Nat), v.sv]
theorem RV.len (v : RV) : (RV.l v).length = 4 := rfl
/-- .. as one of the pool's. -/
def RV.v (r : RV) : V := ⟨r.sv, r.S, r.refs, r.res⟩
abbrev rvs (rs : List RV) : List V := rs.map RV.v
structure Rp (w : World) (B p t : Nat) (c : Cf) (rs : List RV) (now last : Nat) (mv : Value) (M : List Mb) : Prop where
  obj : At w p 120 (rpc c (.slice (some ⟨t, 0, none⟩) rs.length rs.length) now last mv)
  arr : Sl 4 RV.l 124 w B (.slice (some ⟨t, 0, none⟩) rs.length rs.length) rs
  bp : B ≤ p
  vers : ∀ r ∈ rs, Sl 18 Dp.l 88 w B r.sv r.S
  ml : Sl 19 Mb.l 108 w B mv M
  lt : now < rs.length
  ltl : last < rs.length
  big : rs.length ≤ 4096
variable {w w' : World} {B p t : Nat} {c : Cf} {rs : List RV} {now last : Nat} {mv : Value} {M : List Mb}
theorem Rp.same (h : Rp w B p t c rs now last mv M) (hb : ∀ g, B ≤ g → g < w.heap.size → w'.heap[g]? = w.heap[g]?) : Rp w' B p t c rs now last mv M where
  obj := (hb p h.bp h.obj.lt).trans h.obj
  arr := h.arr.same fun g hg hl => hb g (h.arr.ge hg).1 hl
  bp := h.bp
  vers := fun v hv => (h.vers v hv).same fun g hg hl => hb g ((h.vers v hv).ge hg).1 hl
  ml := h.ml.same fun g hg hl => hb g (h.ml.ge hg).1 hl
  lt := h.lt
  ltl := h.ltl
  big := h.big
theorem Rp.below (h : Rp w B p t c rs now last mv M) (hb : Below w.heap.size w w') : Rp w' B p t c rs now last mv M := h.same fun g _ hl => hb.block g hl
theorem Rp.alloc (h : Rp w B p t c rs now last mv M) (o : Obj) : Rp (w.alloc o) B p t c rs now last mv M := h.same fun g _ hl => Below.heap_alloc w o g hl
theorem Rp.drew (h : Rp w B p t c rs now last mv M) : Rp w.drew B p t c rs now last mv M := h.same fun _ _ _ => rfl
theorem Rp.cells (h : Rp w B p t c rs now last mv M) : w.cell? ⟨p, 48, none⟩ = some (.slice (some ⟨t, 0, none⟩) rs.length rs.length) ∧ w.cell? ⟨p, 49, none⟩ = some (.int .i64 (now : Nat)) ∧ w.cell? ⟨p, 50, none⟩ = some (.int .i64 (last : Nat)) ∧ w.cell? ⟨p, 51, none⟩ = some mv ∧ p < w.heap.size := by
  refine ⟨?_, ?_, ?_, ?_, h.obj.lt⟩
  · rw [h.obj.cell]; exact rpc_hi _ _ _ _ _ 0
  · rw [h.obj.cell]; exact rpc_hi _ _ _ _ _ 1
  · rw [h.obj.cell]; exact rpc_hi _ _ _ _ _ 2
  · rw [h.obj.cell]; exact rpc_hi _ _ _ _ _ 3
theorem Rp.at (h : Rp w B p t c rs now last mv M) {i : Nat} {v : RV} (hv : rs[i]? = some v) : w.cell? ⟨t, i * 4 + 1, none⟩ = some (.bool v.res) ∧ w.cell? ⟨t, i * 4 + 2, none⟩ = some (.int .i64 (v.refs : Nat)) ∧ w.cell? ⟨t, i * 4 + 3, none⟩ = some v.sv ∧ t < w.heap.size := by
  obtain ⟨b, o, hbo, hlt, hc⟩ := (h.arr.rd RV.len).1.2 (by have := (List.getElem?_eq_some_iff.1 hv).1; omega)
  simp only [Option.some.injEq, Addr.mk.injEq, and_true] at hbo
  obtain ⟨rfl, rfl⟩ := hbo
  have h1 := hc i v hv 1 (by omega)
  have h2 := hc i v hv 2 (by omega)
  have h3 := hc i v hv 3 (by omega)
  simp only [Nat.zero_add, RV.l, List.getElem?_cons_zero, List.getElem?_cons_succ] at h1 h2 h3
  exact ⟨h1, h2, h3, hlt⟩
theorem Rp.tAt (h : Rp w B p t c rs now last mv M) : ∃ cs, At w t 124 cs := by
  rcases h.arr.cases with ⟨h1, _⟩ | ⟨g, c', cur, h1, h2, h3, _⟩
  · simp at h1
  · simp only [Value.slice.injEq, Option.some.injEq, Addr.mk.injEq, and_true] at h1
    obtain ⟨rfl, _⟩ := h1
    exact ⟨_, h3⟩
theorem Rp.pt (h : Rp w B p t c rs now last mv M) : p ≠ t := by
  obtain ⟨cs, hc⟩ := h.tAt
  exact h.obj.ne hc (by decide)
theorem Rp.bt (h : Rp w B p t c rs now last mv M) : B ≤ t := (h.arr.ge rfl).1
theorem Rp.le (h : Rp w B p t c rs now last mv M) : B ≤ w.heap.size := by have := h.bp; have := h.obj.lt; omega
theorem Rp.frz (h : Rp w B p t c rs now last mv M) (i : Nat) : w.frozen? ⟨p, i, none⟩ = false ∧ w.frozen? ⟨t, i, none⟩ = false := by
  obtain ⟨cs, hc⟩ := h.tAt
  exact ⟨h.obj.frozen _, hc.frozen _⟩
/-- A version turned, by a cell. -/
theorem Rp.setV (h : Rp w B p t c rs now last mv M) {i j : Nat} {x x' : RV} {u : Value} (hx : rs[i]? = some x) (hj : j < 4) (hx' : RV.l x' = (RV.l x).set j u) (hs : x'.sv = x.sv ∧ x'.S = x.S) :
    Rp (w.setCell ⟨t, i * 4 + j, none⟩ u) B p t c (rs.set i x') now last mv M := by
  obtain ⟨cs, hc⟩ := h.tAt
  have hne := h.pt
  refine ⟨?_, ?_, h.bp, ?_, ?_, by rw [List.length_set]; exact h.lt, by rw [List.length_set]; exact h.ltl, by rw [List.length_set]; exact h.big⟩
  · rw [List.length_set]; exact h.obj.far (p := ⟨t, i * 4 + j, none⟩) (by simp only [ne_eq]; omega) _
  · rw [List.length_set]; exact Sl.setCell RV.len hj hx hx' h.arr
  · intro v hv
    have hb : ∀ v ∈ rs, Sl 18 Dp.l 88 (w.setCell ⟨t, i * 4 + j, none⟩ u) B v.sv v.S := fun v hv => (h.vers v hv).far (p := ⟨t, i * 4 + j, none⟩) ((h.vers v hv).ne hc (by decide)) _
    rcases List.mem_or_eq_of_mem_set hv with hv | rfl
    · exact hb v hv
    · rw [hs.1, hs.2]; exact hb x (List.mem_of_getElem? hx)
  · exact h.ml.far (p := ⟨t, i * 4 + j, none⟩) (h.ml.ne hc (by decide)) _
/-- The object turned, by a cell. -/
theorem Rp.setO (h : Rp w B p t c rs now last mv M) {j now' last' : Nat} {mv' u : Value} {M' : List Mb} (hj : (rpc c (.slice (some ⟨t, 0, none⟩) rs.length rs.length) now last mv).setIfInBounds j u = rpc c (.slice (some ⟨t, 0, none⟩) rs.length rs.length) now' last' mv') (hm : Sl 19 Mb.l 108 w B mv' M') (h1 : now' < rs.length) (h2 : last' < rs.length) : Rp (w.setCell ⟨p, j, none⟩ u) B p t c rs now' last' mv' M' := by
  have hne := h.pt
  refine ⟨?_, ?_, h.bp, ?_, ?_, h1, h2, h.big⟩
  · have := h.obj.set j u
    rw [hj] at this
    exact this
  · exact h.arr.far (p := ⟨p, j, none⟩) (by simp only [Value.ownBlock, ne_eq, Option.some.injEq]; omega) _
  · exact fun v hv => (h.vers v hv).far (p := ⟨p, j, none⟩) ((h.vers v hv).ne h.obj (by decide)) _
  · exact hm.far (p := ⟨p, j, none⟩) (hm.ne h.obj (by decide)) _
/-- A version made anew. -/
theorem Rp.setWhole (h : Rp w B p t c rs now last mv M) {i : Nat} (hi : i < rs.length) (x : RV) (hx : Sl 18 Dp.l 88 w B x.sv x.S) : Rp (w.setCells t (i * 4) (RV.l x)) B p t c (rs.set i x) now last mv M := by
  obtain ⟨cs, hc⟩ := h.tAt
  have hne := h.pt
  refine ⟨?_, ?_, h.bp, ?_, ?_, by rw [List.length_set]; exact h.lt, by rw [List.length_set]; exact h.ltl, by rw [List.length_set]; exact h.big⟩
  · rw [List.length_set]; exact h.obj.mod (Mod.setCells (M := fun g => g = t) rfl (RV.l x) (i * 4) w) hne
  · rw [List.length_set]; exact Sl.set RV.len hi h.arr
  · intro v hv
    rcases List.mem_or_eq_of_mem_set hv with hv | rfl
    · exact (h.vers v hv).setCellsNe ((h.vers v hv).ne hc (by decide)) _ _
    · exact hx.setCellsNe (hx.ne hc (by decide)) _ _
  · exact h.ml.setCellsNe (h.ml.ne hc (by decide)) _ _
theorem rvs_get {i : Nat} {x : RV} (h : rs[i]? = some x) : (rvs rs)[i]? = some x.v := by simp [rvs, h]
theorem rvs_len : (rvs rs).length = rs.length := by simp [rvs]
end Go.Proofs.Ytgjecemmejaieaa

/-
  The document's pool: Live, Reserve.
-/
namespace Go.Proofs.Ytgjecemmejaieaa
open Go.RowKit Go.Shelf
variable {w w' w0 : World} {B p t : Nat} {c : Cf} {rs : List RV} {now last : Nat} {mv : Value} {M : List Mb}
theorem Rp.bel (h : Rp w B p t c rs now last mv M) (hB : w0.heap.size ≤ B) (hb : Below w0.heap.size w0 w) (hm : Md p t w w') : Below w0.heap.size w0 w' :=
  hb.trans (mod_below hm hb.size (fun i hi => by
    rcases hi with rfl | rfl
    · exact Nat.le_trans hB h.bp
    · exact Nat.le_trans hB h.bt))
theorem Rp.at0 (h : Rp w B p t c rs now last mv M) {i : Nat} {v : RV} (hv : rs[i]? = some v) : w.cell? ⟨t, i * 4, none⟩ = some (.bool v.lv) := by
  obtain ⟨b, o, hbo, hlt, hc⟩ := (h.arr.rd RV.len).1.2 (by have := (List.getElem?_eq_some_iff.1 hv).1; omega)
  simp only [Option.some.injEq, Addr.mk.injEq, and_true] at hbo
  obtain ⟨rfl, rfl⟩ := hbo
  have h0 := hc i v hv 0 (by omega)
  simp only [Nat.zero_add, Nat.add_zero, RV.l, List.getElem?_cons_zero] at h0
  exact h0
theorem Rp.slotsCell (h : Rp w B p t c rs now last mv M) : w.cell? ⟨p, 5, none⟩ = some (.int .i64 c.slots) := by
  rw [h.obj.cell, rpc_lo _ _ _ _ _ _ (by omega)]
  exact cl_head c 5 (by omega)
end Go.Proofs.Ytgjecemmejaieaa
