/-
  What may not be: Fill and New of such members; Dip at any number.
-/
import Derived.Test.YthfgccibiajneaaBas
namespace Go.Proofs.Ythfgccibiajneaa
open Go.RowKit Go.Shelf
theorem exec_bldD5 (parts : Array (Nat × Operand)) (dst : Option Tmp) (ty : TypeId) (pos : String) (after : Array Edge) (g : Option (Nat × Bool)) (f : Operand → Value) (w : World) :
    (execOp f ⟨dst, .build 92 parts, ty, pos, after, g⟩).run Try.prog w = bldX Try.prog 92 (parts.map fun (i, x) => (i, f x)) w := rfl
attribute [local go_sem ↓] exec_bldD5
set_option maxHeartbeats 2000000 in
theorem fill_bad (am : Option Addr) (nm cm n : Nat) (M : List Mb) (w : World) (hM : Rd 19 Mb.l w am nm M) (hok : mOk M = false) (h1 : 1 ≤ n) (h2 : n ≤ 64) :
    Calls Try.prog 89 #[.slice none 0 0, .slice am nm cm, .int .i64 n] w fun e w' => e = .returned (.tuple #[.slice none 0 0, .int .i64 1]) ∧ Below w.heap.size w w' := by
  have HM := Lib.hid hM
  have HCK := Lib.hid (mChk_no hok)
  have d1 : decide ((n : Int) < 1) = false := by simp; omega
  have d2 : decide (64 < (n : Int)) = false := by simp; omega
  clear hM hok
  go_enter Try.func89, Try.ntmps89
  go_upto_region 1 with fail
  obtain ⟨bo, hbo⟩ : ∃ bo, bo = w.heap.size := ⟨_, rfl⟩
  rw [← hbo]
  have HAO := Lib.hid (at_new w 65 #[.slice none 0 0] bo hbo)
  replace HM := Lib.hid (HM.out.alloc (.cells #[.slice none 0 0] 65))
  have HB := Lib.hid ((Below.refl w.heap.size w).alloc (Nat.le_refl _) (.cells #[.slice none 0 0] 65))
  clear hbo
  generalize w.alloc (.cells #[.slice none 0 0] 65) = W at *
  go_wp2_with fail
  refine (mcheck_any am nm cm M _ HM.out).mono ?_
  rintro e w1 ⟨rfl, hb⟩
  rw [HCK.out]
  have HB1 := Lib.hid (step_below HB.out hb)
  clear hb
  go_wp2_with fail
  go_ret2
  exact ⟨rfl, HB1.out⟩
theorem pnew_bad (c : Cf) (am : Option Addr) (nm cm n : Nat) (M : List Mb) (w : World) (hM : Rd 19 Mb.l w am nm M) (hc : cok c = true) (hok : mOk M = false) (hn : c.slots = n) (h1 : 1 ≤ n) (h2 : n ≤ 64) :
    Calls Try.prog 30 #[.agg (cc c), .slice am nm cm] w fun e w' => e = .returned (.tuple #[.pointer none, .int .i64 1]) ∧ Below w.heap.size w w' := by
  have H := Lib.hid (chk_yes c hc)
  have HM := Lib.hid hM
  have HOK := Lib.hid hok
  clear hc hM hok
  go_enter Try.func30, Try.ntmps30
  go_upto_region 1 with fail
  obtain ⟨bc, hbc⟩ : ∃ bc, bc = w.heap.size := ⟨_, rfl⟩
  rw [← hbc]
  have HC := Lib.hid (at_new w 27 (cc c) bc hbc)
  have HB := Lib.hid ((Below.refl w.heap.size w).alloc (Nat.le_refl _) (.cells (cc c) 27))
  replace HM := Lib.hid (HM.out.alloc (.cells (cc c) 27))
  clear hbc
  generalize w.alloc (.cells (cc c) 27) = W at *
  have r1 := HC.out.row
  have o1 := HC.out.open
  have l1 := HC.out.lt
  go_wp2_with fail
  refine (check_any c _).mono ?_
  rintro e w1 ⟨rfl, hb⟩
  rw [H.out]
  replace HB := Lib.hid (step_below HB.out hb)
  replace HM := Lib.hid (HM.out.below hb)
  replace HC := Lib.hid (HC.out.below hb HC.out.lt)
  clear r1 o1 l1 hb
  have c5 := HC.out.cell 5
  rw [cl_head c 5 (by omega)] at c5
  simp only [Cf.head, List.getElem?_cons_succ, List.getElem?_cons_zero, hn] at c5
  have l1 := HC.out.lt
  go_wp2_with fail
  refine (fill_bad am nm cm n M _ HM.out HOK.out h1 h2).mono ?_
  rintro e w2 ⟨rfl, hb⟩
  replace HB := Lib.hid (step_below HB.out hb)
  clear hb
  go_wp2_with fail
  go_ret2
  exact ⟨rfl, HB.out⟩
variable {w w' : World} {B p t : Nat} {c : Cf} {vs : List V} {now : Nat} {lv sv : Value} {L : List Mb} {S : List Dp}
set_option maxRecDepth 100000 in
set_option maxHeartbeats 4000000 in
theorem dip_noI (h : Po w B p t c vs now lv L sv S) (v s : Int) (hv : liveB vs now v = false) :
    Calls Try.prog 61 #[.pointer (some ⟨p, 0, none⟩), .int .i64 v, .int .i64 s] w fun e w' => e = .returned (.tuple #[.agg (dc dp0), .bool false]) ∧ Below w.heap.size w w' := by
  have HA := Lib.hid (fun o => h.alloc o)
  have HV := Lib.hid hv
  clear h hv
  go_enter Try.func61, Try.ntmps61
  go_wp2_with fail
  obtain ⟨g, hg⟩ : ∃ g, g = w.heap.size := ⟨_, rfl⟩
  obtain ⟨Z, hZ⟩ : ∃ Z : Array Value, Z = #[.bool false, .int .u8 0, .int .u8 0, .int .u8 0, .int .u8 0, .int .u8 0, .int .u8 0, .int .u8 0, .int .u8 0, .int .u8 0, .int .u8 0, .int .u8 0, .int .u8 0, .int .u8 0, .int .u8 0, .int .u8 0, .int .u8 0, .int .u16 0] := ⟨_, rfl⟩
  rw [← hg, ← hZ]
  have hs : Z.size = 18 := by rw [hZ]; rfl
  have HZ := Lib.hid (at_new w 92 Z g hg)
  have HB := Lib.hid ((Below.refl w.heap.size w).alloc (Nat.le_refl _) (.cells Z 92))
  have H := Lib.hid (HA.out (.cells Z 92))
  have HG := Lib.hid (show w.heap.size ≤ g by omega)
  clear hg hZ HA
  generalize w.alloc (.cells Z 92) = W at *
  refine (live_any H.out v).mono ?_
  rintro e w1 ⟨rfl, rfl⟩
  rw [HV.out]
  have hst := store_at (P := Try.prog) w1 g 0 92 Z (dc dp0) HZ.out (by rw [dc_size, hs]; omega) (dc_one _)
  have hat := At.setCells (dc dp0).toList 0 w1 Z HZ.out
  rw [splice_all Z (dc dp0) (by rw [dc_size, hs])] at hat
  have HW := Lib.hid hat
  have HB2 := Lib.hid (HB.out.trans (mod_below (Mod.setCells (M := fun i => i = g) rfl (dc dp0).toList 0 w1) HB.out.size (fun i hi => by rw [hi]; exact HG.out)))
  have f0 := HZ.out.frozen 0
  have l0 := HZ.out.lt
  have hb0 := build_d0
  clear hat
  go_wp2_with fail
  have hl := run_loadVar_row (P := Try.prog) (w1.setCells g 0 (dc dp0).toList) g 92 92 _ (0, 0) _ HW.out Try.underlying92 rfl (by rw [dc_size]; exact sizeDp)
  exact bodyPost_ret (v := .tuple #[.agg (dc dp0), .bool false]) (by simp [results, Try.results61, asAddr, hl]) rfl ⟨rfl, HB2.out⟩
set_option maxRecDepth 100000 in
set_option maxHeartbeats 4000000 in
theorem dip_neg (h : Po w B p t c vs now lv L sv S) (i : Nat) (x : V) (s : Int) (hx : vs[i]? = some x) (hv : liveB vs now i = true) (hsl : s < 0) :
    Calls Try.prog 61 #[.pointer (some ⟨p, 0, none⟩), .int .i64 (i : Nat), .int .i64 s] w fun e w' => e = .returned (.tuple #[.agg (dc dp0), .bool false]) ∧ Below w.heap.size w w' := by
  have HA := Lib.hid (fun o => h.alloc o)
  have HV := Lib.hid hv
  have HX := Lib.hid hx
  have hin : i < vs.length := (List.getElem?_eq_some_iff.1 hx).1
  obtain ⟨n, hn⟩ : ∃ n, n = vs.length := ⟨_, rfl⟩
  rw [← hn] at hin
  have HN := Lib.hid hn
  have hiz : (i : Int) < (n : Int) := by omega
  clear h hv hx hn
  go_enter Try.func61, Try.ntmps61
  go_wp2_with fail
  obtain ⟨g, hg⟩ : ∃ g, g = w.heap.size := ⟨_, rfl⟩
  obtain ⟨Z, hZ⟩ : ∃ Z : Array Value, Z = #[.bool false, .int .u8 0, .int .u8 0, .int .u8 0, .int .u8 0, .int .u8 0, .int .u8 0, .int .u8 0, .int .u8 0, .int .u8 0, .int .u8 0, .int .u8 0, .int .u8 0, .int .u8 0, .int .u8 0, .int .u8 0, .int .u8 0, .int .u16 0] := ⟨_, rfl⟩
  rw [← hg, ← hZ]
  have hs : Z.size = 18 := by rw [hZ]; rfl
  have HZ := Lib.hid (at_new w 92 Z g hg)
  have HB := Lib.hid ((Below.refl w.heap.size w).alloc (Nat.le_refl _) (.cells Z 92))
  have H := Lib.hid (HA.out (.cells Z 92))
  have HG := Lib.hid (show w.heap.size ≤ g by omega)
  clear hg hZ HA
  generalize w.alloc (.cells Z 92) = W at *
  refine (live_any H.out i).mono ?_
  rintro e w1 ⟨rfl, rfl⟩
  rw [HV.out]
  obtain ⟨c48, -, -, -, hl⟩ := H.out.cells
  rw [← HN.out] at c48
  obtain ⟨c0, -, -, htl⟩ := H.out.at HX.out
  have hS := H.out.vers x (List.mem_of_getElem? HX.out)
  obtain ⟨a, q, hsv⟩ := hS.form
  rw [hsv] at hS c0
  obtain ⟨m, hm⟩ : ∃ m, m = x.S.length := ⟨_, rfl⟩
  rw [← hm] at c0
  have hsz4 : decide (s < 0) = true := by simpa using hsl
  clear hS hsv hm
  have hst := store_at (P := Try.prog) w1 g 0 92 Z (dc dp0) HZ.out (by rw [dc_size, hs]; omega) (dc_one _)
  have hat := At.setCells (dc dp0).toList 0 w1 Z HZ.out
  rw [splice_all Z (dc dp0) (by rw [dc_size, hs])] at hat
  have HW := Lib.hid hat
  have HB2 := Lib.hid (HB.out.trans (mod_below (Mod.setCells (M := fun i => i = g) rfl (dc dp0).toList 0 w1) HB.out.size (fun i hi => by rw [hi]; exact HG.out)))
  have f0 := HZ.out.frozen 0
  have l0 := HZ.out.lt
  have hb0 := build_d0
  clear hat
  go_wp2_with fail
  have hl := run_loadVar_row (P := Try.prog) (w1.setCells g 0 (dc dp0).toList) g 92 92 _ (0, 0) _ HW.out Try.underlying92 rfl (by rw [dc_size]; exact sizeDp)
  exact bodyPost_ret (v := .tuple #[.agg (dc dp0), .bool false]) (by simp [results, Try.results61, asAddr, hl]) rfl ⟨rfl, HB2.out⟩
theorem refs_no (h : Po w B p t c vs now lv L sv S) (v : Int) (hv : liveB vs now v = false) : Calls Try.prog 62 #[.pointer (some ⟨p, 0, none⟩), .int .i64 v] w fun e w' => e = .returned (.int .i64 0) ∧ w' = w := by
  have H := Lib.hid h
  have HV := Lib.hid hv
  clear h hv
  go_enter Try.func62, Try.ntmps62
  go_wp2_with fail
  refine (live_any H.out v).mono ?_
  rintro e w1 ⟨rfl, rfl⟩
  rw [HV.out]
  go_wp2_with fail
  go_ret
  exact ⟨rfl, rfl⟩
end Go.Proofs.Ythfgccibiajneaa
