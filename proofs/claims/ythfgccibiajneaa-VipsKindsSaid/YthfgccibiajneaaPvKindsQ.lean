/-
  VipsKinds: without encapsulation a VIP's servers are of its own kind.
-/
import Derived.Test.YthfgccibiajneaaBaw
namespace Go.Proofs.Ythfgccibiajneaa
open Go.RowKit Go.Shelf
attribute [local go_sem ↓] exec_bldM exec_bldV3
def Cf.setE (c : Cf) (e : Bool) : Cf := { c with encap := e }
theorem cc_setE (c : Cf) (e : Bool) : (cc c).setIfInBounds 12 (.bool e) = cc (c.setE e) := by
  unfold cc
  rw [List.setIfInBounds_toArray]
  congr 1
theorem cok_roomyE (e : Bool) : cok ((roomy 3).setE e) = true := by cases e <;> kernel_rfl
abbrev ebK (b : Bool) : List Value := [.bool b]
/-- Members of these kinds. -/
def kM (bs : List Bool) : List Mb := (List.range bs.length).map fun i => ⟨adq (bs.getD i false) i, 1⟩
theorem kM_len (bs : List Bool) : (kM bs).length = bs.length := by simp [kM]
theorem kM_get {bs : List Bool} {i : Nat} {x : Bool} (h : bs[i]? = some x) : (kM bs)[i]? = some ⟨adq x i, 1⟩ := by
  have hi : i < bs.length := (List.getElem?_eq_some_iff.1 h).1
  unfold kM
  rw [List.getElem?_map, List.getElem?_range hi, Option.map_some, getD_of h]
theorem adq_vld (v : Bool) (n : Nat) : vld (adq v n).a = true := by cases v <;> rfl
theorem adq_inj {u v : Bool} {m n : Nat} (hm : m < 200) (hn : n < 200) (h : adq u m = adq v n) : m = n := by
  have h2 := congrArg (fun d : Dp => d.a.b) h
  simp only [adq, List.cons.injEq, and_true, true_and] at h2
  omega
theorem kM_ok (bs : List Bool) (h : bs.length ≤ 32) : mOk (kM bs) = true := by
  unfold mOk
  rw [kM_len, decide_eq_true h, Bool.true_and]
  refine mGo_of _ _ (fun x hx => ?_) ?_
  · obtain ⟨i, _, rfl⟩ := List.mem_map.1 hx
    exact ⟨adq_vld _ _, by simp, by simp, by simp⟩
  · unfold kM
    rw [List.pairwise_map]
    refine List.Pairwise.imp_of_mem (fun ha hb hab => ?_) (List.pairwise_lt_range (n := bs.length))
    have ha := List.mem_range.1 ha
    have hb := List.mem_range.1 hb
    intro he
    have := adq_inj (by omega) (by omega) he
    omega
/-- A table without VIPs. -/
theorem Vx.mod0 {w w' : World} {b T m : Nat} {c : Cf} (h : Vx w b T m c (List.replicate 16 (vz, none))) {M : Nat → Prop} (hm : Mod M w w') (h1 : ¬ M T) (h2 : ¬ M m) : Vx w' b T m c (List.replicate 16 (vz, none)) := by
  obtain ⟨K, hK⟩ := h.tab
  refine ⟨⟨K, hK.same (hm.block T hK.obj.lt h1) (hm.block m hK.mp.lt h2)⟩, ?_, h.lo, ?_⟩
  · intro i v d h
    rw [List.getElem?_replicate] at h
    split at h <;> simp at h
  · intro i j v u d e h
    rw [List.getElem?_replicate] at h
    split at h <;> simp at h
/-- May they answer? -/
def kGood (en v6 : Bool) (bs : List Bool) : Bool := bs.all fun b => en || b == v6
theorem kGood_step (en v6 : Bool) {bs : List Bool} {j : Nat} {x : Bool} (h : bs[j]? = some x) : kGood en v6 (bs.take (j + 1)) = (kGood en v6 (bs.take j) && (en || x == v6)) := by
  unfold kGood
  rw [List.take_add_one, h, Option.toList_some, List.all_append]
  simp
def vK (v6 : Bool) : Vp := ⟨6, (akey 1 v6 false).dst, 1, by omega, by omega⟩
theorem vK_ok (v6 : Bool) : vipOk (vK v6) = true := by cases v6 <;> kernel_rfl
theorem vK_v6 (v6 : Bool) : (vK v6).a.v6 = v6 := rfl
theorem kAdd (en v6 : Bool) (bs : List Bool) (h : bs.length ≤ 32) : addOk ((roomy 3).setE en) (vK v6) (kM bs) = kGood en v6 bs := by
  unfold addOk
  rw [vK_ok, kM_ok bs h, Bool.true_and, Bool.true_and, show ((roomy 3).setE en).encap = en from rfl, vK_v6]
  unfold kGood
  cases en with
  | true => simp
  | false =>
    simp only [Bool.false_or]
    rw [Bool.eq_iff_iff, Bool.not_eq_true', List.any_eq_false, List.all_eq_true]
    constructor
    · intro hx x hxm
      obtain ⟨i, hi⟩ := List.getElem?_of_mem hxm
      have := hx _ (List.mem_of_getElem? (kM_get hi))
      simpa [adq] using this
    · intro hx y hy
      obtain ⟨i, hi, rfl⟩ := List.mem_map.1 hy
      have hi := List.mem_range.1 hi
      have := hx bs[i] (List.getElem_mem hi)
      rw [List.getD_eq_getElem?_getD, List.getElem?_eq_getElem hi, Option.getD_some]
      simpa [adq] using this
theorem field_dst (k : Ky) (w : World) : (Instr.field 31 (.agg (kc k)) 2).run Try.prog w = .ok (.agg (ac k.dst)) w := by
  have hsz : (sizeOf 24).run Try.prog w = .ok 17 w := by
    have h := sizeA
    cases hq : Try.prog.info? 24 with
    | none => simp [hq] at h
    | some i => simp [hq] at h; simp [sizeOf, typeInfo, hq, h]
  have hag : (isAgg 24).run Try.prog w = .ok true w := by
    unfold isAgg
    rw [Sem.run_bind, run_underlying Try.underlying24]
    rfl
  simp [Instr.field, run_underlying Try.underlying31, part, asAgg, hsz, hag, kc_dst, Result.andThen]
set_option maxRecDepth 100000 in
set_option maxHeartbeats 8000000 in
theorem vkinds_any (en v6 : Bool) (ah : Option Addr) (nh ch : Nat) (bs : List Bool) (w : World) (hh : Rd 1 ebK w ah nh bs) :
    Calls Try.prog 8 #[.bool en, .bool v6, .slice ah nh ch] w fun e w' => e = .returned (.bool true) ∧ Below w.heap.size w w' := by
  by_cases hn : 20 < nh
  · have d0 : decide ((20 : Int) < (nh : Int)) = true := by simp; omega
    have e0 : decide (20 < nh) = true := by simp; omega
    go_enter Try.func8, Try.ntmps8
    go_wp2_with fail
    refine (vawake_any _).mono ?_
    rintro e w1 ⟨rfl, hb⟩
    have HB := Lib.hid hb
    clear hb
    go_wp2_with fail
    go_ret
    exact ⟨rfl, HB.out⟩
  · have hn20 : nh ≤ 20 := by omega
    have d0 : decide ((20 : Int) < (nh : Int)) = false := by simp; omega
    have e0 : decide (20 < nh) = false := by simp; omega
    have KR := Lib.hid (fun w => roomy_below 3 w)
    have OK := Lib.hid (cok_roomyE en)
    have HL := Lib.hid (show bs.length = nh from hh.1)
    have HA := Lib.hid (kAdd en v6 bs (by rw [hh.1]; omega))
    have hsl := Lib.hid (show ((roomy 3).setE en).slots = ((32 : Nat) : Int) from rfl)
    have hve := Lib.hid (show ((roomy 3).setE en).versions = ((16 : Nat) : Int) from rfl)
    have HE := Lib.hid (show ((roomy 3)).encap = false from rfl)
    have HH := Lib.hid hh
    generalize roomy 3 = c0 at *
    have hst := fun (w : World) (n : Nat) (Z : Array Value) (hn : n = w.heap.size) (hZ : Z.size = 48) => store_new (P := Try.prog) sizeC w n Z (cc c0) hn hZ (cc_size _) (cc_one _)
    clear hn hh
    go_enter Try.func8, Try.ntmps8
    go_wp2_with fail
    refine (KR.out _).mono ?_
    rintro e w1 ⟨rfl, hb⟩
    have HB := Lib.hid hb
    clear hb
    go_upto_region 4 with fail
    clear d0 e0
    obtain ⟨g, hg⟩ : ∃ g, g = w1.heap.size := ⟨_, rfl⟩
    rw [← hg]
    have HC := Lib.hid (at_new w1 27 (cc c0) g hg)
    have HG := Lib.hid (show w.heap.size ≤ g by rw [hg]; exact HB.out.size)
    replace HB := Lib.hid (HB.out.alloc HB.out.size (.cells (cc c0) 27))
    clear hg hst
    generalize w1.alloc (.cells (cc c0) 27) = W at *
    have hc2 := HC.out.set 12 (.bool en)
    rw [cc_setE] at hc2
    have HC2 := Lib.hid hc2
    replace HB := Lib.hid (HB.out.setCell (p := ⟨g, 12, none⟩) HG.out (.bool en))
    have c12 := HC.out.cell 12
    rw [cl_head _ 12 (by omega)] at c12
    simp only [Cf.head, List.getElem?_cons_succ, List.getElem?_cons_zero] at c12
    have f12 := HC.out.frozen 12
    have l12 := HC.out.lt
    clear HC hc2
    go_upto_region 5 with fail
    clear c12 f12 l12
    generalize W.setCell ⟨g, 12, none⟩ (.bool en) = W2 at *
    generalize c0.setE en = c at *
    have r1 := HC2.out.row
    have o1 := HC2.out.open
    have l1 := HC2.out.lt
    go_wp2_with fail
    refine (xnew_any c _ OK.out).mono ?_
    rintro e w3 ⟨T, m, rfl, hX, hb⟩
    have HX := Lib.hid hX
    have HBASE := Lib.hid HB.out.size
    replace HB := Lib.hid (step_below HB.out hb)
    clear hX hb r1 o1 l1 HC2
    go_wp2_with fail
    go_loopw [10, 11, 12] (fun s10 s11 s12 wx => ∃ j : Nat, s12 = .int .i64 (j : Nat) ∧ j ≤ nh ∧ s11 = .bool (kGood en v6 (bs.take j)) ∧ Sl 19 Mb.l 95 wx w.heap.size s10 ((kM bs).take j) ∧ Below w.heap.size w wx ∧ Vx wx W2.heap.size T m c (List.replicate 16 (vz, none))) (fun _ _ s12 _ => nh - (intOf s12).toNat)
    case atStart => exact ⟨0, rfl, Nat.zero_le _, rfl, Sl.nil _ _ _ _ _, HB.out, HX.out⟩
    case round =>
      clear HB HX
      obtain ⟨j, rfl, hj, rfl, hs, hb, hx⟩ := hrel
      have HS := Lib.hid hs
      have HB := Lib.hid hb
      have HX := Lib.hid hx
      clear hs hb hx
      by_cases hlt : j < nh
      · have hltz : (j : Int) < (nh : Int) := by omega
        obtain ⟨x, hx⟩ : ∃ x, bs[j]? = some x := ⟨_, List.getElem?_eq_getElem (by have := HL.out; omega)⟩
        have HXX := Lib.hid hx
        have HGG := Lib.hid (kGood_step en v6 hx)
        obtain ⟨b, o, rfl, hbl, hc⟩ := (HH.out.below HB.out).2 (by omega)
        have hcx := hc j x hx 0 (by omega)
        rw [Nat.mul_one, Nat.add_zero] at hcx
        simp only [List.getElem?_cons_zero] at hcx
        clear hx hc
        go_wp2_with fail
        refine (adipv_any x j (by omega) _).mono ?_
        rintro e w4 ⟨rfl, hb⟩
        have hbw := HB.out.size
        replace HS := Lib.hid (HS.out.below hb)
        replace HX := Lib.hid (HX.out.below hb)
        have HB0 := HB
        replace HB := Lib.hid (step_below HB.out hb)
        clear hb hbl hcx
        have hbm := build_mc (adq x j) 1
        have hl32 : ((kM bs).take j).length ≤ 32 := by rw [List.length_take]; omega
        have hws := HB.out.size
        go_upto_region 14 with (at_builtin; refine wpList_sl_app1 (y := (⟨adq x j, 1⟩ : Mb)) rfl Mb.len ml_one slMb infoMb3 (mc_size _) (by decide) HS.out (by first | (simp [mc]; done) | (rw [mc_fold _ _ rfl]; simp [mc])) (by unfold maxLen; omega) (by omega) hws rfl rfl rfl rfl ?_; intro v' W5 hs5 hm5 ho5; have HS5 := Lib.hid hs5; have HM5 := Lib.hid hm5; clear hs5 hm5 ho5)
        have HGE := Lib.hid (fun g (hg : u10.ownBlock = some g) => (HS.out.ge hg).1)
        replace HX := Lib.hid (HX.out.mod0 HM5.out (fun e => by obtain ⟨cs, hc⟩ := HS.out.at e; exact At.ne HX.out.obj hc (by decide) rfl) (fun e => by obtain ⟨cs, hc⟩ := HS.out.at e; exact (HX.out.tAt hc (by decide)).2 rfl))
        replace HB := Lib.hid (HB.out.trans (mod_below HM5.out HB.out.size HGE.out))
        clear hbm hl32 hws hbw HS HB0 HM5 HGE
        obtain ⟨b', o', hbo, hbl, hc⟩ := (HH.out.below HB.out).2 (by omega)
        simp only [Option.some.injEq, Addr.mk.injEq, and_true] at hbo
        obtain ⟨rfl, rfl⟩ := hbo
        have hcx := hc j x HXX.out 0 (by omega)
        rw [Nat.mul_one, Nat.add_zero] at hcx
        simp only [List.getElem?_cons_zero] at hcx
        clear hc
        obtain ⟨q, hq⟩ : ∃ q, q = kGood en v6 (bs.take j) := ⟨_, rfl⟩
        rw [← hq] at HGG ⊢
        have HS6 := Lib.hid (show Sl 19 Mb.l 95 W5 w.heap.size v' ((kM bs).take (j + 1)) by rw [List.take_add_one, kM_get HXX.out]; exact HS5.out)
        clear hq HS5
        cases q <;> cases en <;>
        · go_wp2_with fail
          go_roundw
          case rel => exact ⟨j + 1, by simp, by omega, by rw [HGG.out]; rfl, HS6.out, HB.out, HX.out⟩
          case measure => simp [intOf] <;> omega
      · have hltz : ¬ (j : Int) < (nh : Int) := by omega
        have hjn : j = nh := by omega
        have HT := Lib.hid (show (kM bs).take j = kM bs from List.take_of_length_le (by rw [kM_len, HL.out]; omega))
        have HT2 := Lib.hid (show bs.take j = bs from List.take_of_length_le (by rw [HL.out]; omega))
        rw [HT.out] at HS
        rw [HT2.out]
        obtain ⟨am, cm, hv⟩ := HS.out.form
        rw [kM_len, HL.out] at hv
        subst hv
        clear HT HT2 hjn
        go_wp2_with fail
        refine (key_any 1 v6 false _).mono ?_
        rintro e w4 ⟨rfl, hb⟩
        replace HS := Lib.hid (HS.out.below hb)
        replace HX := Lib.hid (HX.out.below hb)
        replace HB := Lib.hid (step_below HB.out hb)
        clear hb
        have hbv : ∀ w, bldX Try.prog 86 #[(0, .int .u8 6), (1, .agg (ac (akey 1 v6 false).dst)), (2, .int .u16 1)] w = .ok (.value (.agg (vpc (vK v6)))) w := build_vp 6 1 (akey 1 v6 false).dst (by omega) (by omega)
        have hfd := field_dst (akey 1 v6 false)
        go_wp2_with fail
        refine (xadd_any HX.out (vK v6) am nh cm 32 16 (kM bs) (HS.out.rd Mb.len).1 OK.out hsl.out hve.out (by omega) (by omega) (by omega) (by omega)).mono ?_
        rw [show AddX w4 W2.heap.size T m c (List.replicate 16 (vz, none)) (vK v6) (kM bs) 32 16 = fun e w' => AddX w4 W2.heap.size T m c (List.replicate 16 (vz, none)) (vK v6) (kM bs) 32 16 e w' from rfl]
        rintro e w5 (⟨h, rfl, hb⟩ | ⟨_, ⟨i, d, h⟩, _⟩ | ⟨_, _, h, _⟩ | ⟨h, _, i, u, _, _, rfl, d, _, _, _, h5, h6⟩)
        · rw [HA.out] at h
          replace HX := Lib.hid (HX.out.below hb)
          replace HB := Lib.hid (step_below HB.out hb)
          rw [h]
          clear hb h hbv hfd
          go_wp2_with fail
          refine (xlen_any HX.out).mono ?_
          rintro e w6 ⟨rfl, rfl⟩
          rw [show cntX (List.replicate 16 (vz, none)) = 0 from rfl]
          go_wp2_with fail
          refine (vawake_any _).mono ?_
          rintro e w7 ⟨rfl, hb⟩
          replace HB := Lib.hid (step_below HB.out hb)
          clear hb
          go_wp2_with fail
          go_ret
          exact ⟨rfl, HB.out⟩
        · rw [List.getElem?_replicate] at h; split at h <;> simp at h
        · have := h (vz, none) (by simp); simp at this
        · rw [HA.out] at h
          replace HB := Lib.hid (HX.out.bel h6 HBASE.out HB.out)
          rw [h]
          clear h hbv hfd h5 h6
          go_wp2_with fail
          refine (vawake_any _).mono ?_
          rintro e w7 ⟨rfl, hb⟩
          replace HB := Lib.hid (step_below HB.out hb)
          clear hb
          go_wp2_with fail
          go_ret
          exact ⟨rfl, HB.out⟩
end Go.Proofs.Ythfgccibiajneaa
