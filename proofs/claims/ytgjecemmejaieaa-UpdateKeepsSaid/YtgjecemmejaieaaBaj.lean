/-
  Texts in one, each behind those that it needs: PoShareW, PoFill, PoFillP.
-/
import Derived.Test.YtgjecemmejaieaaBai
import Derived.Shelf.Abstract
/-
  slots.Shares: its walk.
-/
namespace Go.Proofs.Ytgjecemmejaieaa
open Go.RowKit
theorem infoI : (Try.prog.info? 3).map (fun i => (i.zero, i.size, i.bytes)) = some (some (.int .i64 0), 1, 8) := by kernel_rfl
theorem slI : Try.prog.underlying 22 = some (.slice 3) := by kernel_rfl
theorem makeI (n : Nat) (hn : n ≤ 4096) (w : World) : (Instr.makeSlice 22 (.int .i64 (n : Int)) (.int .i64 (n : Int))).run Try.prog w = .ok (.slice (some ⟨w.heap.size, 0, none⟩) n n) (w.alloc (.cells ((List.replicate n (0 : Int)).flatMap ei).toArray 3)) := by
  obtain ⟨i0, hi, hz0, hz1, hz2⟩ := info_parts infoI
  have := run_make (P := Try.prog) w 22 3 i0 _ Try.underlying22 hi hz0 .i64 .i64 n n (by omega) (by omega) (by rw [hz2]; omega) (by omega)
  rw [hz1, Int.toNat_natCast] at this
  rw [this]
  refine congrArg (fun c => Result.ok (Value.slice (some ⟨w.heap.size, 0, none⟩) n n) (w.alloc (.cells c 3))) ?_
  apply Array.ext_getElem?
  intro i
  unfold madeCells
  have hf := flatGet (k := 1) (enc := ei) ei_len (List.replicate n (0 : Int)) i 0 (by omega)
  rw [Nat.mul_one, Nat.add_zero] at hf
  rw [Array.getElem?_map, Array.getElem?_range, List.getElem?_toArray, hf, List.getElem?_replicate, Nat.mul_one]
  by_cases h : i < n
  · rw [if_pos h, if_pos h]; simp [Value.cells, Nat.mod_one]
  · rw [if_neg h, if_neg h]; rfl
theorem At.ne {w : World} {g g' : Nat} {t t' : TypeId} {cs cs' : Array Value} (h : At w g t cs) (h' : At w g' t' cs') (ht : t ≠ t') : g ≠ g' := by
  rintro rfl
  unfold At at h h'
  rw [h] at h'
  simp only [Option.some.injEq, Obj.cells.injEq] at h'
  exact ht h'.2.1
theorem sum_le : ∀ (l : List Int), (∀ x ∈ l, 0 ≤ x ∧ x ≤ 1024) → 0 ≤ l.sum ∧ l.sum ≤ 1024 * l.length
  | [], _ => by simp
  | a :: r, h => by
    have ih := sum_le r fun x hx => h x (by simp [hx])
    have := h a (by simp)
    rw [List.sum_cons, List.length_cons]
    push_cast
    omega
theorem intAt {w : World} {B g : Nat} {v : Value} {L : List Int} (h : Sl 1 ei 3 w B v L) (hv : v.ownBlock = some g) : ∃ cs, At w g 3 cs := by
  rcases h.cases with ⟨rfl, _⟩ | ⟨g', c', cur, rfl, h2, h3, _⟩
  · cases hv
  · simp only [Value.ownBlock, Option.some.injEq] at hv
    subst hv
    exact ⟨_, h3⟩
theorem Sl.frozenS {w : World} {B n c g : Nat} {L : List Int} (h : Sl 1 ei 3 w B (.slice (some ⟨g, 0, none⟩) n c) L) (i : Nat) : w.frozen? ⟨g, i, none⟩ = false := by
  rcases h.cases with ⟨h1, rfl⟩ | ⟨g', c', cur, h1, h2, h3, _⟩
  · simp at h1
  · simp only [Value.slice.injEq, Option.some.injEq, Addr.mk.injEq, and_true] at h1
    obtain ⟨rfl, rfl, rfl⟩ := h1
    exact h3.frozen i
/-- An integer of a row of one's own: its cell. -/
theorem Sl.int {w : World} {B n c : Nat} {a : Option Addr} {L : List Int} {x : Int} {i : Nat} (h : Sl 1 ei 3 w B (.slice a n c) L) (hx : L[i]? = some x) :
    ∃ g, a = some ⟨g, 0, none⟩ ∧ n = L.length ∧ n ≤ c ∧ B ≤ g ∧ g < w.heap.size ∧ w.cell? ⟨g, i, none⟩ = some (.int .i64 x) := by
  rcases h.cases with ⟨h1, rfl⟩ | ⟨g, c', cur, h1, h2, h3, h4, h5, h6, h7⟩
  · simp at hx
  · simp only [Value.slice.injEq] at h1
    obtain ⟨rfl, rfl, rfl⟩ := h1
    refine ⟨g, rfl, rfl, h4, h2, h3.lt, ?_⟩
    have hi : i < L.length := (List.getElem?_eq_some_iff.1 hx).1
    have hf := flatGet ei_len L i 0 (by omega)
    rw [Nat.mul_one, Nat.add_zero] at hf
    rw [← h7, hx, List.getElem?_take, if_pos (by omega), Array.getElem?_toList] at hf
    rw [h3.cell, hf]; rfl
theorem Sl.setInt {w : World} {B n c g : Nat} {L : List Int} (h : Sl 1 ei 3 w B (.slice (some ⟨g, 0, none⟩) n c) L) (i : Nat) (x : Int) (hi : i < L.length) : Sl 1 ei 3 (w.setCell ⟨g, i, none⟩ (.int .i64 x)) B (.slice (some ⟨g, 0, none⟩) n c) (L.set i x) := by
  have := Sl.set ei_len (x := x) hi h
  rw [Nat.mul_one] at this
  exact this
set_option maxRecDepth 100000 in
set_option maxHeartbeats 8000000 in
theorem shares_any (a : Option Addr) (n0 c0 : Nat) (L : List Mb) (n : Nat) (w : World) (h : Rd 19 Mb.l w a n0 L) (hok : mOk L = true) (h0 : 0 < L.length) (hn : n ≤ 64) :
    Calls Try.prog 56 #[.slice a n0 c0, .int .i64 n] w fun e w' => ∃ v, e = .returned v ∧ Sl 1 ei 3 w' w.heap.size v (sharesOf L n) ∧ Below w.heap.size w w' := by
  have HR := Lib.hid h
  have HL := Lib.hid h.1
  obtain ⟨hl32, hw⟩ := mOk_w hok
  have HW := Lib.hid hw
  have HSB := Lib.hid (sumW_bounds L hw)
  have HCK := Lib.hid (mChk_yes hok)
  have hlen : L.length = n0 := h.1
  rw [hlen] at h0 hl32
  have d1 : decide ((n : Int) < 0) = false := by simp
  have d2 : decide (64 < (n : Int)) = false := by simp; omega
  have d3 : ((n0 : Int) == 0) = false := by simp; omega
  have d4 : (n0 == 0) = false := by simp; omega
  clear h hok hw hlen
  go_enter Try.func56, Try.ntmps56
  go_wp2_with fail
  refine (mcheck_any a n0 c0 L _ HR.out).mono ?_
  rintro e w1 ⟨rfl, hb⟩
  rw [HCK.out]
  have HB := Lib.hid hb
  clear hb
  go_wp2_with fail
  clear d1 d2 d3 d4
  go_loopw [5, 8, 32] (fun s5 _ s32 wr => ∃ j : Nat, s32 = .int .i64 (j : Nat) ∧ j ≤ n0 ∧ s5 = .int .i64 (sumW (L.take j)) ∧ Below w.heap.size w wr) (fun _ _ s32 _ => n0 - (intOf s32).toNat)
  case atStart => exact ⟨0, rfl, Nat.zero_le _, rfl, HB.out⟩
  case round =>
    clear HB
    obtain ⟨j, rfl, hj, rfl, hb⟩ := hrel
    have HB := Lib.hid hb
    clear hb
    by_cases hlt : j < n0
    · have hltz : (j : Int) < (n0 : Int) := by omega
      obtain ⟨x, hx⟩ : ∃ x, L[j]? = some x := ⟨_, List.getElem?_eq_getElem (by have := HL.out; omega)⟩
      have hxw := HW.out x (List.mem_of_getElem? hx)
      have HSJ := Lib.hid (show sumW (L.take (j + 1)) = sumW (L.take j) + x.w by unfold sumW; rw [List.take_add_one, hx, List.map_append, List.sum_append]; simp)
      have hsb := sumW_bounds (L.take j) (fun y hy => HW.out y (List.mem_of_mem_take hy))
      have htl : (L.take j).length = j := by rw [List.length_take]; have := HL.out; omega
      rw [htl] at hsb
      obtain ⟨b, o, rfl, hbl, ha, hao⟩ := (HR.out.below HB.out).agg Mb.len hx
      rw [show (Mb.l x).toArray = mc x from rfl] at ha
      have hst := fun (w : World) (n : Nat) (Z : Array Value) (hn : n = w.heap.size) (hZ : Z.size = 19) => store_new (P := Try.prog) sizeMb w n Z (mc x) hn hZ (mc_size _) (mc_one _)
      generalize sumW (L.take j) = sj at *
      clear hx htl
      go_upto_region 7 with fail
      obtain ⟨bx, hbx⟩ : ∃ bx, bx = wr.heap.size := ⟨_, rfl⟩
      rw [← hbx]
      have HBX := Lib.hid (at_new wr 108 (mc x) bx hbx)
      replace HB := Lib.hid (HB.out.alloc HB.out.size (.cells (mc x) 108))
      clear hst ha hao hbl hbx
      generalize wr.alloc (.cells (mc x) 108) = W2 at *
      have c18 := HBX.out.cell 18
      rw [mc_18?] at c18
      have l1 := HBX.out.lt
      go_wp2_with fail
      go_roundw
      case rel => exact ⟨j + 1, by simp, by omega, by rw [HSJ.out], HB.out⟩
      case measure => simp [intOf] <;> omega
    · have hltz : ¬ (j : Int) < (n0 : Int) := by omega
      have hjn : j = n0 := by omega
      have htk : L.take j = L := List.take_of_length_le (by have := HL.out; omega)
      rw [htk]
      obtain ⟨W, hW⟩ : ∃ W, W = sumW L := ⟨_, rfl⟩
      rw [← hW]
      have HWW := Lib.hid hW
      have hWb : 1 ≤ W ∧ W ≤ 512 := by have := HSB.out; have := HL.out; omega
      have hmk := makeI n0 (by omega)
      have HFB := Lib.hid (show ∀ y ∈ floW L n W, 0 ≤ y ∧ y ≤ 1024 from fun y hy => by
        obtain ⟨x, hx, rfl⟩ := List.mem_map.1 hy
        have hxw := HW.out x hx
        have h0 : 0 ≤ (n : Int) * x.w := Int.mul_nonneg (by omega) (by omega)
        have h1 : (n : Int) * x.w ≤ 64 * 16 := Int.mul_le_mul (by omega) hxw.2 (by omega) (by omega)
        exact ⟨Int.ediv_nonneg h0 (by omega), Int.le_trans (Int.ediv_le_self _ h0) (by omega)⟩)
      clear htk hW
      go_wp2_with fail
      clear hmk
      obtain ⟨gr, hgr⟩ : ∃ gr, gr = wr.heap.size := ⟨_, rfl⟩
      rw [← hgr]
      have hat := at_new wr 3 ((List.replicate n0 (0 : Int)).flatMap ei).toArray gr hgr
      have HRE := Lib.hid (Sl.of (B := gr) (L := List.replicate n0 (0 : Int)) ei_len hat (Nat.le_refl _) (by simp) (by rw [List.length_replicate]; unfold maxLen; omega))
      rw [List.length_replicate] at HRE
      have HGR := Lib.hid (show w.heap.size ≤ gr by rw [hgr]; exact HB.out.size)
      replace HB := Lib.hid (HB.out.alloc HB.out.size (.cells ((List.replicate n0 (0 : Int)).flatMap ei).toArray 3))
      have HB1 := Lib.hid (show gr + 1 ≤ (wr.alloc (.cells ((List.replicate n0 (0 : Int)).flatMap ei).toArray 3)).heap.size by rw [hgr]; simp)
      clear hat hgr
      generalize wr.alloc (.cells ((List.replicate n0 (0 : Int)).flatMap ei).toArray 3) = W1 at *
      go_loopw [4, 6, 10, 11, 46] (fun s4 s6 _ _ s46 wx => ∃ j : Nat, s46 = .int .i64 (j : Nat) ∧ j ≤ n0 ∧ s6 = .int .i64 ((n : Int) - ((floW L n W).take j).sum) ∧ Sl 1 ei 3 wx (gr + 1) s4 ((floW L n W).take j) ∧ Sl 1 ei 3 wx gr (.slice (some ⟨gr, 0, none⟩) n0 n0) ((remW L n W).take j ++ List.replicate (n0 - j) 0) ∧ Below w.heap.size w wx ∧ gr + 1 ≤ wx.heap.size) (fun _ _ _ _ s46 _ => n0 - (intOf s46).toNat)
      case atStart => exact ⟨0, rfl, Nat.zero_le _, by simp, Sl.nil _ _ _ _ _, HRE.out, HB.out, HB1.out⟩
      case round =>
        clear HRE HB HB1
        obtain ⟨j, rfl, hj, rfl, hsl, hre, hb, hb1⟩ := hrel
        have HSL := Lib.hid hsl
        have HRE := Lib.hid hre
        have HB := Lib.hid hb
        have HB1 := Lib.hid hb1
        clear hsl hre hb hb1
        by_cases hlt : j < n0
        · have hltz : (j : Int) < (n0 : Int) := by omega
          obtain ⟨x, hx⟩ : ∃ x, L[j]? = some x := ⟨_, List.getElem?_eq_getElem (by have := HL.out; omega)⟩
          have HX := Lib.hid hx
          have hxw := HW.out x (List.mem_of_getElem? hx)
          obtain ⟨b, o, rfl, hbl, ha, hao⟩ := (HR.out.below HB.out).agg Mb.len hx
          rw [show (Mb.l x).toArray = mc x from rfl] at ha
          have hst := fun (w : World) (n : Nat) (Z : Array Value) (hn : n = w.heap.size) (hZ : Z.size = 19) => store_new (P := Try.prog) sizeMb w n Z (mc x) hn hZ (mc_size _) (mc_one _)
          have hsj := sum_le ((floW L n W).take j) (fun y hy => HFB.out y (List.mem_of_mem_take hy))
          have hsl2 : ((floW L n W).take j).length ≤ 32 := by rw [List.length_take]; omega
          obtain ⟨S, hS⟩ : ∃ S, S = ((floW L n W).take j).sum := ⟨_, rfl⟩
          rw [← hS] at hsj ⊢
          have HSS := Lib.hid hS
          have hS1 : 0 ≤ S ∧ S ≤ 32768 := by omega
          clear hx hsj hsl2 hS
          go_upto_region 13 with fail
          obtain ⟨bx, hbx⟩ : ∃ bx, bx = wr.heap.size := ⟨_, rfl⟩
          rw [← hbx]
          have HBX := Lib.hid (at_new wr 108 (mc x) bx hbx)
          replace HSL := Lib.hid (HSL.out.alloc (.cells (mc x) 108))
          replace HRE := Lib.hid (HRE.out.alloc (.cells (mc x) 108))
          replace HB := Lib.hid (HB.out.alloc HB.out.size (.cells (mc x) 108))
          replace HB1 := Lib.hid (show gr + 1 ≤ (wr.alloc (.cells (mc x) 108)).heap.size by have := HB1.out; simp; omega)
          clear hst ha hao hbl hbx
          generalize wr.alloc (.cells (mc x) 108) = W2 at *
          obtain ⟨pr, hpr⟩ : ∃ pr, pr = (n : Int) * x.w := ⟨_, rfl⟩
          have hp0 : 0 ≤ pr := by rw [hpr]; exact Int.mul_nonneg (by omega) (by omega)
          have hp1 : pr ≤ 64 * 16 := by rw [hpr]; exact Int.mul_le_mul (by omega) hxw.2 (by omega) (by omega)
          obtain ⟨qv, hqv⟩ : ∃ q, q = pr / W := ⟨_, rfl⟩
          obtain ⟨rv, hrv⟩ : ∃ q, q = pr % W := ⟨_, rfl⟩
          have hq0 : 0 ≤ qv := by rw [hqv]; exact Int.ediv_nonneg hp0 (by omega)
          have hq1 : qv ≤ 1024 := by rw [hqv]; exact Int.le_trans (Int.ediv_le_self _ hp0) (by omega)
          have hr0 : 0 ≤ rv := by rw [hrv]; exact Int.emod_nonneg _ (by omega)
          have hr1 : rv < W := by rw [hrv]; exact Int.emod_lt_of_pos _ (by omega)
          have hm1 : IntKind.i64.wrap ((n : Int) * x.w) = pr := by rw [← hpr, IntKind.wrap_i64]; omega
          have hm3 : Int.tdiv pr W = qv := by rw [hqv]; exact Int.tdiv_eq_ediv_of_nonneg hp0
          have hm4 : Int.tmod pr W = rv := by rw [hrv]; exact Int.tmod_eq_emod_of_nonneg hp0
          have hW0 : ¬ W = 0 := by omega
          have HP := Lib.hid (And.intro hpr (And.intro hqv hrv))
          have c18 := HBX.out.cell 18
          rw [mc_18?] at c18
          have l1 := HBX.out.lt
          clear hpr hqv hrv
          have hfl : ((floW L n W).take j).length ≤ 32 := by rw [List.length_take]; omega
          go_upto_region 14 with (at_builtin; refine wpList_sl_app1 (y := qv) rfl ei_len ei_one slI infoI rfl (by decide) HSL.out rfl (by unfold maxLen; omega) (by omega) HB1.out rfl rfl rfl rfl ?_; intro v' W5 hs5 hm5 ho5; have HS5 := Lib.hid hs5; have HM5 := Lib.hid hm5; have HO5 := Lib.hid ho5; clear hs5 hm5 ho5)
          have hge := fun g (hg : u4.ownBlock = some g) => (HSL.out.ge hg).1
          replace HRE := Lib.hid (HRE.out.mod HM5.out (fun g hg e => by simp only [Value.ownBlock, Option.some.injEq] at hg; have := hge g e; omega))
          replace HBX := Lib.hid (HBX.out.mod HM5.out (fun e => by
            obtain ⟨_, h2⟩ := intAt HSL.out e
            exact HBX.out.ne h2 (by decide) rfl))
          replace HB := Lib.hid (HB.out.trans (mod_below HM5.out HB.out.size (fun g hg => by have := hge g hg; have := HGR.out; omega)))
          replace HB1 := Lib.hid (Nat.le_trans HB1.out HM5.out.size)
          have hqi : ((floW L n W).take j ++ [qv])[j]? = some qv := by
            have htl : ((floW L n W).take j).length = j := by rw [List.length_take]; have := HL.out; simp only [floW, List.length_map]; omega
            rw [List.getElem?_append_right (by omega), htl, Nat.sub_self]; rfl
          have HTJ := Lib.hid (show (floW L n W).take j ++ [qv] = (floW L n W).take (j + 1) by
            rw [List.take_add_one]
            have : (floW L n W)[j]? = some qv := by simp only [floW, List.getElem?_map, HX.out, Option.map_some]; rw [HP.out.2.1, HP.out.1]
            rw [this]; rfl)
          rw [HTJ.out] at hqi HS5
          obtain ⟨av, cv, rfl⟩ := HS5.out.form
          have hlen1 : ((floW L n W).take (j + 1)).length = j + 1 := by rw [List.length_take]; have := HL.out; simp only [floW, List.length_map]; omega
          rw [hlen1] at HS5 ⊢
          obtain ⟨g', hg', -, hnc', hB', hlt', hcq⟩ := HS5.out.int hqi
          subst hg'
          have c18 := HBX.out.cell 18
          rw [mc_18?] at c18
          have l1 := HBX.out.lt
          have hrl : ((remW L n W).take j ++ List.replicate (n0 - j) 0).length = n0 := by rw [List.length_append, List.length_take, List.length_replicate]; have := HL.out; simp only [remW, List.length_map]; omega
          obtain ⟨z, hz⟩ : ∃ z, ((remW L n W).take j ++ List.replicate (n0 - j) 0)[j]? = some z := ⟨_, List.getElem?_eq_getElem (by omega)⟩
          obtain ⟨g2, hg2, -, -, -, hlt2, hcz⟩ := HRE.out.int hz
          obtain rfl : gr = g2 := by simpa using hg2
          have fg := HRE.out.frozenS j
          have hne : ¬ g' = gr := by omega
          clear hfl hge hqi hlen1 hz hg2 hrl
          go_wp2_with fail
          go_roundw
          case rel =>
            refine ⟨j + 1, by simp, by omega, ?_, HS5.out.far (p := ⟨gr, j, none⟩) (by simp only [Value.ownBlock, ne_eq, Option.some.injEq]; exact hne) _, ?_, HB.out.setCell (p := ⟨gr, j, none⟩) HGR.out _, by have := HB1.out; simp [World.setCell]; omega⟩
            · rw [← HTJ.out, List.sum_append, ← HSS.out]
              simp only [List.sum_cons, List.sum_nil]
              congr 1; omega
            · have h1 := HRE.out.setInt j rv (by rw [List.length_append, List.length_take, List.length_replicate]; have := HL.out; simp only [remW, List.length_map]; omega)
              have e : ((remW L n W).take j ++ List.replicate (n0 - j) 0).set j rv = (remW L n W).take (j + 1) ++ List.replicate (n0 - (j + 1)) 0 := by
                have htl : ((remW L n W).take j).length = j := by rw [List.length_take]; have := HL.out; simp only [remW, List.length_map]; omega
                have hrj : (remW L n W)[j]? = some rv := by simp only [remW, List.getElem?_map, HX.out, Option.map_some]; rw [HP.out.2.2, HP.out.1]
                rw [List.set_append_right _ _ (by omega), htl, Nat.sub_self, List.take_add_one, hrj, show n0 - j = (n0 - (j + 1)) + 1 by omega, List.replicate_succ, List.set_cons_zero, List.append_assoc]
                rfl
              rw [e] at h1
              exact h1
          case measure => simp [intOf] <;> omega
        · have hltz : ¬ (j : Int) < (n0 : Int) := by omega
          have hjn2 : j = n0 := by omega
          have hfl : (floW L n W).length = n0 := by have := HL.out; simp only [floW, List.length_map]; omega
          have hrl : (remW L n W).length = n0 := by have := HL.out; simp only [remW, List.length_map]; omega
          rw [hjn2, List.take_of_length_le (by omega), Nat.sub_self, List.replicate_zero, List.append_nil] at HRE
          rw [hjn2, List.take_of_length_le (by omega)] at HSL
          rw [show (floW L n W).take j = floW L n W from List.take_of_length_le (by omega)]
          have hsum := floW_sum L n (by omega) (by rw [← HWW.out]; omega)
          rw [← HWW.out] at hsum
          have hs0 := (sum_le (floW L n W) HFB.out).1
          obtain ⟨k0, hk0⟩ : ∃ k : Nat, (n : Int) - (floW L n W).sum = k := ⟨((n : Int) - (floW L n W).sum).toNat, by omega⟩
          rw [hk0]
          have HSH := Lib.hid (show (shGo k0 (floW L n W, remW L n W)).1 = sharesOf L n by
            unfold sharesOf
            rw [← HWW.out]
            congr 2; omega)
          have hk64 : k0 ≤ 64 := by omega
          obtain ⟨ao, co, hao⟩ := HSL.out.form
          obtain ⟨y0, hy0⟩ : ∃ y, (floW L n W)[0]? = some y := ⟨_, List.getElem?_eq_getElem (by omega)⟩
          rw [hfl] at hao
          subst hao
          obtain ⟨go, rfl, -, -, hgo, -, -⟩ := HSL.out.int hy0
          have HF2 := Lib.hid hfl
          have HR2 := Lib.hid hrl
          have hne : ¬ go = gr := by omega
          clear hfl hrl hsum hs0 hk0 hy0 hlt hj
          go_wp2_with fail
          go_loopw [6, 12] (fun s6 _ wx => ∃ (k : Nat) (S R : List Int), s6 = .int .i64 (k : Nat) ∧ k ≤ 64 ∧ S.length = n0 ∧ R.length = n0 ∧ (shGo k (S, R)).1 = sharesOf L n ∧ (∀ y ∈ S, 0 ≤ y ∧ y + k ≤ 2048) ∧ Sl 1 ei 3 wx (gr + 1) (.slice (some ⟨go, 0, none⟩) n0 co) S ∧ Sl 1 ei 3 wx gr (.slice (some ⟨gr, 0, none⟩) n0 n0) R ∧ Below w.heap.size w wx) (fun s6 _ _ => (intOf s6).toNat)
          case atStart => exact ⟨k0, _, _, rfl, hk64, HF2.out, HR2.out, HSH.out, fun y hy => by have := HFB.out y hy; omega, HSL.out, HRE.out, HB.out⟩
          case round =>
            clear HSL HRE HB HB1 HSH HF2 HR2 hk64
            obtain ⟨k, S, R, rfl, hk, hsl, hrl, hsh, hb, hS, hR, hB⟩ := hrel
            have HS := Lib.hid hS
            have HRR := Lib.hid hR
            have HB := Lib.hid hB
            have HSH := Lib.hid hsh
            have HBN := Lib.hid hb
            have HLN := Lib.hid (And.intro hsl hrl)
            clear hS hR hB hsh hb
            by_cases hk0 : k = 0
            · subst hk0
              have hkz : ¬ (0 : Int) < ((0 : Nat) : Int) := by omega
              clear hsl hrl
              go_wp2_with fail
              go_ret
              refine ⟨_, rfl, ?_, HB.out⟩
              have := HSH.out
              rw [← this]
              exact HS.out.base (by have := HGR.out; omega)
            · obtain ⟨q, rfl⟩ : ∃ q, k = q + 1 := ⟨k - 1, by omega⟩
              have hkz : (0 : Int) < ((q + 1 : Nat) : Int) := by omega
              have HI := Lib.hid (ints_rd (HRR.out.rd ei_len).1)
              have hmem := maxL_mem (l := R) (by omega)
              have hil : R.idxOf (maxL R) < n0 := by have := List.idxOf_lt_length_of_mem hmem; omega
              have HM := Lib.hid hmem
              clear hmem hsl hrl hk0
              go_wp2_with fail
              refine (max_any _ n0 n0 R _ HI.out (by omega) (by omega)).mono ?_
              rintro e w7 ⟨rfl, rfl⟩
              go_wp2_with fail
              refine (index_any _ n0 n0 R (maxL R) _ HI.out HM.out (by omega)).mono ?_
              rintro e w8 ⟨rfl, rfl⟩
              obtain ⟨ix, hix⟩ : ∃ ix, ix = R.idxOf (maxL R) := ⟨_, rfl⟩
              rw [← hix] at hil ⊢
              have HIX := Lib.hid hix
              obtain ⟨y, hy⟩ : ∃ y, S[ix]? = some y := ⟨_, List.getElem?_eq_getElem (by have := HLN.out.1; omega)⟩
              obtain ⟨z, hz⟩ : ∃ z, R[ix]? = some z := ⟨_, List.getElem?_eq_getElem (by have := HLN.out.2; omega)⟩
              obtain ⟨g1, hg1, -, hco, -, hl1, c1⟩ := HS.out.int hy
              obtain rfl : go = g1 := by simpa using hg1
              obtain ⟨g2, hg2, -, -, -, hl2, c2⟩ := HRR.out.int hz
              obtain rfl : gr = g2 := by simpa using hg2
              have f1 := HS.out.frozenS ix
              have f2 := HRR.out.frozenS ix
              have hyb := HBN.out y (List.mem_of_getElem? hy)
              have HY := Lib.hid hy
              have hixz : (ix : Int) < (n0 : Int) := by omega
              clear hix hy hz hg1 hg2
              go_wp2_with fail
              go_roundw
              case rel =>
                have e1 : S.getD ix 0 = y := by rw [List.getD_eq_getElem?_getD, HY.out]; rfl
                have e2 : shStep (S, R) = (S.set ix (y + 1), R.set ix (-1)) := by unfold shStep; rw [← HIX.out, e1]
                have hs0 := HSH.out
                rw [shGo, e2] at hs0
                refine ⟨q, S.set ix (y + 1), R.set ix (-1), ?_, by omega, by rw [List.length_set, HLN.out.1], by rw [List.length_set, HLN.out.2], hs0, ?_, ?_, ?_, ?_⟩
                · simp
                · intro u hu
                  rcases List.mem_or_eq_of_mem_set hu with hu | hu
                  · have := HBN.out u hu; push_cast at this; omega
                  · push_cast at hyb; omega
                · exact (HS.out.setInt ix (y + 1) (by rw [HLN.out.1]; omega)).far (p := ⟨gr, ix, none⟩) (by simp only [Value.ownBlock, ne_eq, Option.some.injEq]; exact hne) _
                · exact Sl.setInt (HRR.out.far (p := ⟨go, ix, none⟩) (by simp only [Value.ownBlock, ne_eq, Option.some.injEq]; omega) _) ix (-1) (by rw [HLN.out.2]; omega)
                · exact (HB.out.setCell (p := ⟨go, ix, none⟩) (show w.heap.size ≤ go by have := HGR.out; omega) _).setCell (p := ⟨gr, ix, none⟩) HGR.out _
              case measure => simp [intOf] <;> omega
end Go.Proofs.Ytgjecemmejaieaa

/-
  slots.Fill: its closure, IndexFunc over it.
-/
namespace Go.Proofs.Ytgjecemmejaieaa
open Go.RowKit Go.Shelf
theorem dpWide : (match Try.prog.underlying 88 with | some (.array _ _) | some (.struct _) => true | _ => false) = true := by kernel_rfl
theorem dpKey5 : Try.prog.keyTypeAt 5 88 = true := by kernel_rfl
/-- Two servers set side by side. -/
theorem eqDp (a b : Dp) (w : World) : (Op.equalIn 10000 88 (.agg (dc a)) (.agg (dc b))).run Try.prog w = .ok (decide (a = b)) w := by
  obtain ⟨la, ha⟩ := key_dip a
  obtain ⟨lb, hb⟩ := key_dip b
  obtain ⟨r, hr, hi⟩ := run_equal_deep (P := Try.prog) w (m := 5) (by omega) dpKey5 (by kernel_rfl) ha hb
  have e : r = decide (a = b) := by
    rw [Bool.eq_iff_iff, hi, decide_eq_true_iff]
    constructor
    · rintro rfl
      have := dipLaw.inj ha hb
      simp only [Value.agg.injEq] at this
      exact Dp.inj this
    · rintro rfl
      rw [ha] at hb
      exact Option.some.inj hb
  rw [← e]
  exact hr
theorem dp_guard : Try.prog.eqGuardType Try.prog.depth 88 = false := by kernel_rfl
attribute [go_sem ↓] eqDp
attribute [go_sem] dp_guard
set_option maxHeartbeats 2000000 in
/-- Is it the server that stood here? -/
theorem fclo_any (bo bi : Nat) (x : Mb) (y : Dp) (i n c : Nat) (a : Option Addr) (L : List Dp) (w : World) (ho : At w bo 59 #[.slice a n c]) (hi : At w bi 3 #[.int .i64 (i : Nat)]) (hr : Rd 18 Dp.l w a n L) (hy : L[i]? = some y) :
    Calls Try.prog 58 #[.agg (mc x), .pointer (some ⟨bo, 0, none⟩), .pointer (some ⟨bi, 0, none⟩)] w fun e w' => e = .returned (.bool (decide (x.d = y))) ∧ Below w.heap.size w w' := by
  have hin : i < n := by have := (List.getElem?_eq_some_iff.1 hy).1; rw [hr.1] at this; exact this
  have hiz : (i : Int) < (n : Int) := by omega
  obtain ⟨b, o, rfl, hbl, ha, hao⟩ := hr.agg Dp.l_length hy
  rw [show (Dp.l y).toArray = dc y from rfl] at ha
  have co := ho.cell 0
  have ci := hi.cell 0
  simp only [List.getElem?_toArray, List.getElem?_cons_zero] at co ci
  have l1 := ho.lt
  have l2 := hi.lt
  have HB := Lib.hid ((Below.refl w.heap.size w).alloc (Nat.le_refl _) (.cells (mc x) 108))
  obtain ⟨bx, hbx⟩ : ∃ bx, bx = w.heap.size := ⟨_, rfl⟩
  have hat := at_new w 108 (mc x) bx hbx
  have HX := Lib.hid hat
  have m1 := (Mod.of_below (M := fun _ => False) HB.out).agg
  have e1 := m1.1 b (o + i * 18) 18 hbl (by simp)
  have e2 := m1.2 b (o + i * 18) 18 hbl (by simp)
  rw [ha] at e1
  rw [hao] at e2
  have e3 := HB.out.cell (p := ⟨bo, 0, none⟩) l1
  have e4 := HB.out.cell (p := ⟨bi, 0, none⟩) l2
  rw [co] at e3
  rw [ci] at e4
  have l0 := hat.lt
  have l1' : bo < (w.alloc (.cells (mc x) 108)).heap.size := Nat.lt_of_lt_of_le l1 HB.out.size
  have l2' : bi < (w.alloc (.cells (mc x) 108)).heap.size := Nat.lt_of_lt_of_le l2 HB.out.size
  have l3' : b < (w.alloc (.cells (mc x) 108)).heap.size := Nat.lt_of_lt_of_le hbl HB.out.size
  obtain ⟨hag, hago⟩ := hat.agg 0 18 (by rw [mc_size]; omega)
  rw [show 0 + 18 = 18 from rfl, mc_dip] at hag
  clear ha hao ho hi hr hy m1 co ci l1 l2 hbl hat hin
  go_enter Try.func58, Try.ntmps58
  go_upto_region 1 with fail
  rw [← hbx]
  clear hbx
  generalize w.alloc (.cells (mc x) 108) = W at *
  go_wp2_with fail
  refine region_sq (fun _ => False) [(0, true), (1, true), (2, true), (3, true), (4, true), (5, true), (6, true), (7, true)] (by kernel_rfl) (by kernel_rfl) (fun _ _ d _ _ h => by cases d <;> exact h) ?_
  repeat (first
    | (refine sq_yes rfl (by rfl) (fun w' hM => by ((try replace hM := hM.of_drew); obtain ⟨hR1, hR2, hR3⟩ := hM.rules; have hA := hM.agg; obtain ⟨hA1, hA2⟩ := hA; clear hM; go_simp; with_reducible rfl)) ?_; simp only [Act.put, List.setIfInBounds_toArray, List.set_cons_zero, List.set_cons_succ])
    | (refine sq_no rfl (by rfl) ?_; simp only [Act.put, List.setIfInBounds_toArray, List.set_cons_zero, List.set_cons_succ]))
  refine sq_end ?_
  go_wp2_with fail
  go_ret
  exact ⟨rfl, HB.out.drew⟩
set_option maxHeartbeats 2000000 in
theorem fidx_any (bo bi : Nat) (y : Dp) (i n c n1 c1 : Nat) (a a1 : Option Addr) (L : List Dp) (M : List Mb) (w : World) (ho : At w bo 59 #[.slice a n c]) (hi : At w bi 3 #[.int .i64 (i : Nat)]) (hr : Rd 18 Dp.l w a n L) (hy : L[i]? = some y) (hm : Rd 19 Mb.l w a1 n1 M) (hn1 : n1 ≤ 32) :
    Calls Try.prog 57 #[.slice a1 n1 c1, .func (.func 58) #[] #[.pointer (some ⟨bo, 0, none⟩), .pointer (some ⟨bi, 0, none⟩)]] w fun e w' =>
      Below w.heap.size w w' ∧ ((e = .returned (.int .i64 (-1)) ∧ ∀ x ∈ M, x.d ≠ y) ∨ ∃ (k : Nat) (x : Mb), e = .returned (.int .i64 (k : Nat)) ∧ M[k]? = some x ∧ x.d = y ∧ ∀ z ∈ M.take k, z.d ≠ y) := by
  have HO := Lib.hid ho
  have HI := Lib.hid hi
  have HR := Lib.hid hr
  have HY := Lib.hid hy
  have HM := Lib.hid hm
  have hn : n1 = M.length := hm.1.symm
  have HN := Lib.hid hn
  have eg := enters_of Try.func58 (by kernel_rfl) rfl
  clear ho hi hr hy hm hn
  go_enter Try.func57, Try.ntmps57
  go_wp2_with fail
  go_loopw [5, 8] (fun _ s8 wr => ∃ j : Nat, j ≤ n1 ∧ s8 = .int .i64 j ∧ Below w.heap.size w wr ∧ (∀ z ∈ M.take j, z.d ≠ y)) (fun _ s8 _ => n1 - (intOf s8).toNat)
  case atStart => exact ⟨0, Nat.zero_le _, rfl, Below.refl _ _, by simp⟩
  case round =>
    obtain ⟨j, hj, rfl, hb, hz⟩ := hrel
    have HB := Lib.hid hb
    have HZ := Lib.hid hz
    clear hz
    by_cases hlt : j < n1
    · have hltz : (j : Int) < (n1 : Int) := by omega
      obtain ⟨x, hx⟩ : ∃ x, M[j]? = some x := ⟨_, List.getElem?_eq_getElem (by have := HN.out; omega)⟩
      have HX := Lib.hid hx
      obtain ⟨b, o, rfl, hbl, ha, hao⟩ := (HM.out.below HB.out).agg Mb.len hx
      rw [show (Mb.l x).toArray = mc x from rfl] at ha
      have hcall := fclo_any bo bi x y i n c a L wr (HO.out.below hb HO.out.lt) (HI.out.below hb HI.out.lt) (HR.out.below hb) HY.out
      clear hb hx
      cases hq : decide (x.d = y) with
      | true =>
        rw [hq] at hcall
        go_wp2_with fail
        refine hcall.mono ?_
        rintro e w' ⟨rfl, hb'⟩
        have HC := Lib.hid (step_below HB.out hb')
        clear hb'
        go_wp2_with fail
        go_ret
        exact ⟨HC.out, .inr ⟨j, x, rfl, HX.out, by simpa using hq, HZ.out⟩⟩
      | false =>
        rw [hq] at hcall
        go_wp2_with fail
        refine hcall.mono ?_
        rintro e w' ⟨rfl, hb'⟩
        have HC := Lib.hid (step_below HB.out hb')
        clear hb'
        go_wp2_with fail
        go_roundw
        case rel =>
          refine ⟨j + 1, by omega, by simp, HC.out, fun z hz => ?_⟩
          rw [List.take_add_one, HX.out] at hz
          rcases List.mem_append.1 hz with hz | hz
          · exact HZ.out z hz
          · simp only [Option.toList_some, List.mem_singleton] at hz
            subst hz
            simpa using hq
        case measure => simp [intOf] <;> omega
    · have hltz : ¬ (j : Int) < (n1 : Int) := by omega
      go_wp2_with fail
      go_ret
      have hnn := HN.out
      have hz := HZ.out
      rw [List.take_of_length_le (by omega)] at hz
      exact ⟨HB.out, .inl ⟨rfl, hz⟩⟩
end Go.Proofs.Ytgjecemmejaieaa

/-
  slots.Fill: what it tells, in plain words.
-/
namespace Go.Proofs.Ytgjecemmejaieaa
open Go.RowKit
def dp0 : Dp := ⟨⟨false, List.replicate 16 0, by simp, by intro x hx; have := (List.mem_replicate.1 hx).2; omega⟩, 0, by omega⟩
def mb0 : Mb := ⟨dp0, 0⟩
structure FS where
  left : List Int
  out : List Dp
  opn : List Nat
/-- Who serves at i's old server: its place; past the last where none does. -/
def fAt (O : List Dp) (M : List Mb) (i : Nat) : Nat := if O.length = 0 then M.length else M.findIdx (fun x => decide (x.d = O.getD i dp0))
def f1 (O : List Dp) (M : List Mb) (s : FS) (i : Nat) : FS :=
  if s.left.getD (fAt O M i) 0 = 0 then ⟨s.left, s.out, s.opn ++ [i]⟩
  else ⟨s.left.set (fAt O M i) (s.left.getD (fAt O M i) 0 - 1), s.out.set i (O.getD i dp0), s.opn⟩
def f1s (O : List Dp) (M : List Mb) (n : Nat) : Nat → FS
  | 0 => ⟨sharesOf M n, List.replicate n dp0, []⟩
  | j + 1 => f1 O M (f1s O M n j) j
/-- The first with a share left. -/
def nx (l : List Int) : Nat := l.findIdx fun x => decide (x ≠ 0)
def f2 (M : List Mb) (s : List Int × List Dp) (i : Nat) : List Int × List Dp := (s.1.set (nx s.1) (s.1.getD (nx s.1) 0 - 1), s.2.set i (M.getD (nx s.1) mb0).d)
def f2s (M : List Mb) (s : List Int × List Dp) (op : List Nat) : List Int × List Dp := op.foldl (f2 M) s
def fillOf (O : List Dp) (M : List Mb) (n : Nat) : List Dp := (f2s M ((f1s O M n n).left, (f1s O M n n).out) (f1s O M n n).opn).2
theorem getD_of {α : Type} {l : List α} {k : Nat} {x d : α} (h : l[k]? = some x) : l.getD k d = x := by rw [List.getD_eq_getElem?_getD, h]; rfl
theorem getD_mem {l : List Int} {k : Nat} (h : l.getD k 0 ≠ 0) : k < l.length ∧ l.getD k 0 ∈ l := by
  by_cases hk : k < l.length
  · exact ⟨hk, by rw [List.getD_eq_getElem?_getD, List.getElem?_eq_getElem hk]; exact List.getElem_mem hk⟩
  · exact absurd (by rw [List.getD_eq_getElem?_getD, List.getElem?_eq_none (by omega)]; rfl) h
/-- A share given away. -/
theorem gave {l : List Int} {k : Nat} (h : l.getD k 0 ≠ 0) (hp : ∀ x ∈ l, 0 ≤ x) : (l.set k (l.getD k 0 - 1)).sum = l.sum - 1 ∧ ∀ x ∈ l.set k (l.getD k 0 - 1), 0 ≤ x := by
  obtain ⟨hk, hm⟩ := getD_mem h
  refine ⟨by rw [sum_set _ _ _ hk]; omega, fun x hx => ?_⟩
  rcases List.mem_or_eq_of_mem_set hx with hx | hx
  · exact hp x hx
  · have := hp _ hm; omega
/-- Phase one, what holds all along. -/
theorem f1s_facts (O : List Dp) (M : List Mb) (n : Nat) (hM : (sharesOf M n).length = M.length ∧ (sharesOf M n).sum = n ∧ ∀ x ∈ sharesOf M n, 0 ≤ x) : ∀ j, j ≤ n →
    (f1s O M n j).left.length = M.length ∧ (f1s O M n j).out.length = n ∧ (∀ x ∈ (f1s O M n j).left, 0 ≤ x) ∧ (f1s O M n j).left.sum = n - j + (f1s O M n j).opn.length ∧ (∀ i ∈ (f1s O M n j).opn, i < j) ∧ (f1s O M n j).opn.length ≤ j
  | 0, _ => by simp [f1s, hM]; exact hM.2.2
  | j + 1, hj => by
    obtain ⟨h1, h2, h3, h4, h5, h6⟩ := f1s_facts O M n hM j (by omega)
    rw [f1s]
    unfold f1
    split
    · refine ⟨h1, h2, h3, ?_, ?_, ?_⟩
      · simp only [List.length_append, List.length_cons, List.length_nil]; push_cast; omega
      · intro i hi
        rcases List.mem_append.1 hi with hi | hi
        · have := h5 i hi; omega
        · simp only [List.mem_singleton] at hi; omega
      · simp only [List.length_append, List.length_cons, List.length_nil]; omega
    · rename_i hq
      have hg := gave hq h3
      refine ⟨by simp only [List.length_set]; exact h1, by simp only [List.length_set]; exact h2, hg.2, ?_, fun i hi => by have := h5 i hi; omega, by simp only; omega⟩
      simp only [hg.1]; push_cast; omega
/-- Nothing is left ahead of a. -/
def Zr (a : Nat) (l : List Int) : Prop := ∀ q, q < a → l.getD q 0 = 0
theorem Zr.zero (l : List Int) : Zr 0 l := fun q h => absurd h (by omega)
theorem Zr.succ {a : Nat} {l : List Int} (h : Zr a l) (ha : l.getD a 0 = 0) : Zr (a + 1) l := fun q hq => by
  by_cases e : q = a
  · rw [e]; exact ha
  · exact h q (by omega)
theorem sum_zero : ∀ (l : List Int), (∀ q, l.getD q 0 = 0) → l.sum = 0
  | [], _ => rfl
  | x :: r, h => by
    have h0 : x = 0 := by have := h 0; simpa using this
    have := sum_zero r fun q => by have := h (q + 1); simpa using this
    rw [List.sum_cons, this, h0]; rfl
theorem Zr.lt {a : Nat} {l : List Int} (h : Zr a l) (hs : l.sum ≠ 0) : a < l.length := by
  by_cases ha : a < l.length
  · exact ha
  · exfalso
    refine hs (sum_zero l fun q => ?_)
    by_cases hq : q < a
    · exact h q hq
    · rw [List.getD_eq_getElem?_getD, List.getElem?_eq_none (by omega)]; rfl
theorem Zr.nx {a : Nat} {l : List Int} (h : Zr a l) (ha : l.getD a 0 ≠ 0) : nx l = a := by
  obtain ⟨hk, _⟩ := getD_mem ha
  unfold Proofs.Ytgjecemmejaieaa.nx
  rw [List.findIdx_eq hk]
  constructor
  · rw [decide_eq_true_iff]
    rw [List.getD_eq_getElem?_getD, List.getElem?_eq_getElem hk] at ha
    exact ha
  · intro j hj
    have := h j hj
    rw [List.getD_eq_getElem?_getD, List.getElem?_eq_getElem (by omega)] at this
    simpa using this
theorem Zr.set {a : Nat} {l : List Int} (h : Zr a l) (v : Int) : Zr a (l.set a v) := fun q hq => by
  have := h q hq
  rw [List.getD_eq_getElem?_getD] at this ⊢
  rw [List.getElem?_set_ne (by omega)]; exact this
/-- Who is found first. -/
theorem findIdx_of {M : List Mb} {y : Dp} {k : Nat} {x : Mb} (hk : M[k]? = some x) (hx : x.d = y) (hz : ∀ z ∈ M.take k, z.d ≠ y) : M.findIdx (fun x => decide (x.d = y)) = k := by
  obtain ⟨hl, e⟩ := List.getElem?_eq_some_iff.1 hk
  rw [List.findIdx_eq hl]
  refine ⟨by rw [e]; simpa using hx, fun j hj => ?_⟩
  have := hz M[j] (List.mem_take_iff_getElem.2 ⟨j, by omega, rfl⟩)
  simpa using this
theorem findIdx_none {M : List Mb} {y : Dp} (h : ∀ x ∈ M, x.d ≠ y) : M.findIdx (fun x => decide (x.d = y)) = M.length := by
  rw [List.findIdx_eq_length]
  intro x hx
  simpa using h x hx
theorem f1_open {O : List Dp} {M : List Mb} {s : FS} {i : Nat} (h : s.left.getD (fAt O M i) 0 = 0) : f1 O M s i = ⟨s.left, s.out, s.opn ++ [i]⟩ := by unfold f1; rw [if_pos h]
theorem f1_gave {O : List Dp} {M : List Mb} {s : FS} {i : Nat} (h : ¬ s.left.getD (fAt O M i) 0 = 0) : f1 O M s i = ⟨s.left.set (fAt O M i) (s.left.getD (fAt O M i) 0 - 1), s.out.set i (O.getD i dp0), s.opn⟩ := by unfold f1; rw [if_neg h]
theorem f2s_snoc (M : List Mb) (s : List Int × List Dp) (op : List Nat) (i : Nat) : f2s M s (op ++ [i]) = f2 M (f2s M s op) i := by unfold f2s; rw [List.foldl_append]; rfl
theorem f2s_len (M : List Mb) (s : List Int × List Dp) : ∀ op : List Nat, (f2s M s op).1.length = s.1.length ∧ (f2s M s op).2.length = s.2.length := by
  intro op
  induction op generalizing s with
  | nil => exact ⟨rfl, rfl⟩
  | cons i r ih =>
    have := ih (f2 M s i)
    unfold f2s at this ⊢
    rw [List.foldl_cons, this.1, this.2]
    simp [f2]
theorem fillOf_len (O : List Dp) (M : List Mb) (n : Nat) (hM : (sharesOf M n).length = M.length ∧ (sharesOf M n).sum = n ∧ ∀ x ∈ sharesOf M n, 0 ≤ x) : (fillOf O M n).length = n := by
  unfold fillOf
  rw [(f2s_len M _ _).2]
  exact (f1s_facts O M n hM n (Nat.le_refl _)).2.1
/-- A row made anew. -/
theorem made_flat {α : Type} {k : Nat} {enc : α → List Value} (hk : ∀ x, (enc x).length = k) (h0 : 0 < k) (z : α) (n : Nat) : madeCells (enc z).toArray (n * k) = ((List.replicate n z).flatMap enc).toArray := by
  apply Array.ext_getElem?
  intro i
  unfold madeCells
  have hr : i % k < k := Nat.mod_lt _ h0
  have hq : i / k * k + i % k = i := by rw [Nat.mul_comm]; exact Nat.div_add_mod i k
  have hf := flatGet hk (List.replicate n z) (i / k) (i % k) hr
  rw [hq, List.getElem?_replicate] at hf
  rw [Array.getElem?_map, Array.getElem?_range, List.getElem?_toArray, hf]
  by_cases h : i < n * k
  · rw [if_pos h, if_pos (Nat.div_lt_of_lt_mul (by rwa [Nat.mul_comm] at h))]
    simp [hk, hr]
  · have : ¬ i / k < n := fun h1 => h (by have := Nat.mul_le_mul_right k (show i / k + 1 ≤ n from h1); rw [Nat.succ_mul] at this; omega)
    rw [if_neg h, if_neg this]; rfl
theorem infoDp : (Try.prog.info? 88).map (fun i => (i.zero, i.size)) = some (some (.agg (dc dp0)), 18) := by kernel_rfl
theorem slDp : Try.prog.underlying 59 = some (.slice 88) := by kernel_rfl
end Go.Proofs.Ytgjecemmejaieaa
