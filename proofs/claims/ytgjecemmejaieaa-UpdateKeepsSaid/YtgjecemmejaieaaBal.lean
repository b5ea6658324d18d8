/-
  Texts in one, each behind those that it needs: PoActs, PoClone, PoFillZ, PoRes, PoNew.
-/
import Derived.Test.YtgjecemmejaieaaBak
/-
  A pool's small acts: Now, Ref, Unref, Refs, Serve.
-/
namespace Go.Proofs.Ytgjecemmejaieaa
open Go.RowKit Go.Shelf
theorem Sl.ne {α : Type} {k : Nat} {enc : α → List Value} {e e' : TypeId} {w : World} {B t : Nat} {v : Value} {L : List α} {cs : Array Value} (h : Sl k enc e w B v L) (ht : At w t e' cs) (hne : e ≠ e') : v.ownBlock ≠ some t := by
  intro hv
  rcases h.cases with ⟨rfl, _⟩ | ⟨g, c, cur, rfl, h2, h3, _⟩
  · cases hv
  · simp only [Value.ownBlock, Option.some.injEq] at hv
    subst hv
    exact h3.ne ht hne rfl
variable {w w' : World} {B p t : Nat} {c : Cf} {vs : List V} {now : Nat} {lv sv : Value} {L : List Mb} {S : List Dp}
theorem Po.tAt (h : Po w B p t c vs now lv L sv S) : ∃ cs, At w t 90 cs := by
  rcases h.arr.cases with ⟨h1, _⟩ | ⟨g, c', cur, h1, h2, h3, _⟩
  · simp at h1
  · simp only [Value.slice.injEq, Option.some.injEq, Addr.mk.injEq, and_true] at h1
    obtain ⟨rfl, _⟩ := h1
    exact ⟨_, h3⟩
theorem Po.pt (h : Po w B p t c vs now lv L sv S) : p ≠ t := by
  obtain ⟨cs, hc⟩ := h.tAt
  exact h.obj.ne hc (by decide)
theorem Po.bt (h : Po w B p t c vs now lv L sv S) : B ≤ t := (h.arr.ge rfl).1
/-- A version turned, by a cell. -/
theorem Po.setV (h : Po w B p t c vs now lv L sv S) {i j : Nat} {x x' : V} {u : Value} (hx : vs[i]? = some x) (hj : j < 3) (hx' : V.l x' = (V.l x).set j u) (hs : x'.sv = x.sv ∧ x'.S = x.S) :
    Po (w.setCell ⟨t, i * 3 + j, none⟩ u) B p t c (vs.set i x') now lv L sv S := by
  obtain ⟨cs, hc⟩ := h.tAt
  have hne := h.pt
  refine ⟨?_, ?_, h.bp, ?_, ?_, ?_, by rw [List.length_set]; exact h.lt, by rw [List.length_set]; exact h.big⟩
  · rw [List.length_set]; exact h.obj.far (p := ⟨t, i * 3 + j, none⟩) (by simp only [ne_eq]; omega) _
  · rw [List.length_set]; exact Sl.setCell V.len hj hx hx' h.arr
  · intro v hv
    have hb : ∀ v ∈ vs, Sl 18 Dp.l 88 (w.setCell ⟨t, i * 3 + j, none⟩ u) B v.sv v.S := fun v hv => (h.vers v hv).far (p := ⟨t, i * 3 + j, none⟩) ((h.vers v hv).ne hc (by decide)) _
    rcases List.mem_or_eq_of_mem_set hv with hv | rfl
    · exact hb v hv
    · rw [hs.1, hs.2]; exact hb x (List.mem_of_getElem? hx)
  · exact h.last.far (p := ⟨t, i * 3 + j, none⟩) (h.last.ne hc (by decide)) _
  · exact h.sl.far (p := ⟨t, i * 3 + j, none⟩) (h.sl.ne hc (by decide)) _
/-- Another version serves. -/
theorem Po.setNow (h : Po w B p t c vs now lv L sv S) {i : Nat} (hi : i < vs.length) : Po (w.setCell ⟨p, 49, none⟩ (.int .i64 (i : Nat))) B p t c vs i lv L sv S := by
  have hne := h.pt
  refine ⟨?_, ?_, h.bp, ?_, ?_, ?_, hi, h.big⟩
  · have := h.obj.set 49 (.int .i64 (i : Nat))
    rw [pc_now] at this
    exact this
  · exact h.arr.far (p := ⟨p, 49, none⟩) (by simp only [Value.ownBlock, ne_eq, Option.some.injEq]; omega) _
  · exact fun v hv => (h.vers v hv).far (p := ⟨p, 49, none⟩) ((h.vers v hv).ne h.obj (by decide)) _
  · exact h.last.far (p := ⟨p, 49, none⟩) (h.last.ne h.obj (by decide)) _
  · exact h.sl.far (p := ⟨p, 49, none⟩) (h.sl.ne h.obj (by decide)) _
/-- Only the pool's own two blocks have turned. -/
def Md (p t : Nat) (w w' : World) : Prop := Mod (fun g => g = p ∨ g = t) w w'
theorem Md.refl (p t : Nat) (w : World) : Md p t w w := Mod.refl _ _
theorem Md.at (p t i : Nat) (u : Value) (w : World) : Md p t w (w.setCell ⟨t, i, none⟩ u) := by
  have := Mod.setCells (M := fun g => g = p ∨ g = t) (g := t) (.inr rfl) [u] i w
  exact this
theorem Md.ap (p t i : Nat) (u : Value) (w : World) : Md p t w (w.setCell ⟨p, i, none⟩ u) := by
  have := Mod.setCells (M := fun g => g = p ∨ g = t) (g := p) (.inl rfl) [u] i w
  exact this
theorem now_any (h : Po w B p t c vs now lv L sv S) : Calls Try.prog 21 #[.pointer (some ⟨p, 0, none⟩)] w fun e w' => e = .returned (.int .i64 (now : Nat)) ∧ w' = w := by
  obtain ⟨-, c49, -, -, hl⟩ := h.cells
  clear h
  go_enter Try.func21, Try.ntmps21
  go_wp2_with fail
  go_ret
  exact ⟨rfl, rfl⟩
theorem ref_no (h : Po w B p t c vs now lv L sv S) (v : Int) (hv : liveB vs now v = false) : Calls Try.prog 31 #[.pointer (some ⟨p, 0, none⟩), .int .i64 v] w fun e w' => e = .returned (.int .i64 4) ∧ w' = w := by
  have H := Lib.hid h
  have HV := Lib.hid hv
  clear h hv
  go_enter Try.func31, Try.ntmps31
  go_wp2_with fail
  refine (live_any H.out v).mono ?_
  rintro e w1 ⟨rfl, rfl⟩
  rw [HV.out]
  go_wp2_with fail
  go_ret
  exact ⟨rfl, rfl⟩
theorem ref_yes (h : Po w B p t c vs now lv L sv S) (i : Nat) (x : V) (hx : vs[i]? = some x) (hv : liveB vs now i = true) (hr : x.refs < 1000000) : Calls Try.prog 31 #[.pointer (some ⟨p, 0, none⟩), .int .i64 (i : Nat)] w fun e w' =>
    e = .returned (.int .i64 0) ∧ Po w' B p t c (vs.set i { x with refs := x.refs + 1 }) now lv L sv S ∧ Md p t w w' := by
  have H := Lib.hid h
  have HV := Lib.hid hv
  have HX := Lib.hid hx
  obtain ⟨c48, -, -, -, hl⟩ := h.cells
  obtain ⟨-, c1, -, htl⟩ := h.at hx
  have hin : i < vs.length := (List.getElem?_eq_some_iff.1 hx).1
  obtain ⟨n, hn⟩ : ∃ n, n = vs.length := ⟨_, rfl⟩
  rw [← hn] at c48 hin
  have hiz : (i : Int) < (n : Int) := by omega
  have f1 : w.frozen? ⟨t, i * 3 + 1, none⟩ = false := by obtain ⟨cs, hc⟩ := h.tAt; exact hc.frozen _
  clear h hv hx hn
  go_enter Try.func31, Try.ntmps31
  go_wp2_with fail
  refine (live_any H.out i).mono ?_
  rintro e w1 ⟨rfl, rfl⟩
  rw [HV.out]
  go_wp2_with fail
  go_ret
  exact ⟨rfl, H.out.setV (x' := { x with refs := x.refs + 1 }) HX.out (by omega) (by simp) ⟨rfl, rfl⟩, Md.at _ _ _ _ _⟩
theorem refs_any (h : Po w B p t c vs now lv L sv S) (i : Nat) (x : V) (hx : vs[i]? = some x) (hv : liveB vs now i = true) : Calls Try.prog 22 #[.pointer (some ⟨p, 0, none⟩), .int .i64 (i : Nat)] w fun e w' =>
    e = .returned (.int .i64 (x.refs : Nat)) ∧ w' = w := by
  have H := Lib.hid h
  have HV := Lib.hid hv
  obtain ⟨c48, -, -, -, hl⟩ := h.cells
  obtain ⟨-, c1, -, htl⟩ := h.at hx
  have hin : i < vs.length := (List.getElem?_eq_some_iff.1 hx).1
  obtain ⟨n, hn⟩ : ∃ n, n = vs.length := ⟨_, rfl⟩
  rw [← hn] at c48 hin
  have hiz : (i : Int) < (n : Int) := by omega
  clear h hv hx hn
  go_enter Try.func22, Try.ntmps22
  go_wp2_with fail
  refine (live_any H.out i).mono ?_
  rintro e w1 ⟨rfl, rfl⟩
  rw [HV.out]
  go_wp2_with fail
  go_ret
  exact ⟨rfl, rfl⟩
theorem unref_no (h : Po w B p t c vs now lv L sv S) (v : Int) (hv : liveB vs now v = false) : Calls Try.prog 34 #[.pointer (some ⟨p, 0, none⟩), .int .i64 v] w fun e w' => e = .returned (.int .i64 4) ∧ w' = w := by
  have H := Lib.hid h
  have HV := Lib.hid hv
  clear h hv
  go_enter Try.func34, Try.ntmps34
  go_wp2_with fail
  refine (live_any H.out v).mono ?_
  rintro e w1 ⟨rfl, rfl⟩
  rw [HV.out]
  go_wp2_with fail
  go_ret
  exact ⟨rfl, rfl⟩
theorem unref_any (h : Po w B p t c vs now lv L sv S) (i : Nat) (x : V) (hx : vs[i]? = some x) (hv : liveB vs now i = true) (hr : x.refs < 1000000) : Calls Try.prog 34 #[.pointer (some ⟨p, 0, none⟩), .int .i64 (i : Nat)] w fun e w' =>
    (x.refs = 0 ∧ e = .returned (.int .i64 5) ∧ w' = w) ∨ (0 < x.refs ∧ e = .returned (.int .i64 0) ∧ Po w' B p t c (vs.set i { x with refs := x.refs - 1 }) now lv L sv S ∧ Md p t w w') := by
  have H := Lib.hid h
  have HV := Lib.hid hv
  have HX := Lib.hid hx
  obtain ⟨c48, -, -, -, hl⟩ := h.cells
  obtain ⟨-, c1, -, htl⟩ := h.at hx
  have hin : i < vs.length := (List.getElem?_eq_some_iff.1 hx).1
  obtain ⟨n, hn⟩ : ∃ n, n = vs.length := ⟨_, rfl⟩
  rw [← hn] at c48 hin
  have hiz : (i : Int) < (n : Int) := by omega
  have f1 : w.frozen? ⟨t, i * 3 + 1, none⟩ = false := by obtain ⟨cs, hc⟩ := h.tAt; exact hc.frozen _
  obtain ⟨r, hrx⟩ : ∃ r, r = x.refs := ⟨_, rfl⟩
  rw [← hrx] at hr c1 ⊢
  have HRX := Lib.hid hrx
  clear h hv hx hn hrx
  go_enter Try.func34, Try.ntmps34
  go_wp2_with fail
  refine (live_any H.out i).mono ?_
  rintro e w1 ⟨rfl, rfl⟩
  rw [HV.out]
  by_cases h0 : r = 0
  · have H0 := Lib.hid h0
    have hz : ((r : Int) == 0) = true := by rw [beq_iff_eq]; omega
    clear h0
    go_wp2_with fail
    go_ret
    exact .inl ⟨H0.out, rfl, rfl⟩
  · have H0 := Lib.hid (show 0 < r by omega)
    have hz : ((r : Int) == 0) = false := by simp; omega
    have hz2 : (r == 0) = false := by simp; omega
    obtain ⟨q, hq⟩ : ∃ q, r = q + 1 := ⟨r - 1, by omega⟩
    have HQ := Lib.hid (show (r : Int) - 1 = ((r - 1 : Nat) : Int) by omega)
    clear h0 hq
    go_wp2_with fail
    go_ret
    refine .inr ⟨H0.out, rfl, ?_, Md.at _ _ _ _ _⟩
    exact H.out.setV (x' := { x with refs := r - 1 }) HX.out (by omega) (by simp [HQ.out]) ⟨rfl, rfl⟩
theorem serve_no (h : Po w B p t c vs now lv L sv S) (v : Int) (hv : liveB vs now v = false) : Calls Try.prog 32 #[.pointer (some ⟨p, 0, none⟩), .int .i64 v] w fun e w' => e = .returned (.int .i64 4) ∧ w' = w := by
  have H := Lib.hid h
  have HV := Lib.hid hv
  clear h hv
  go_enter Try.func32, Try.ntmps32
  go_wp2_with fail
  refine (live_any H.out v).mono ?_
  rintro e w1 ⟨rfl, rfl⟩
  rw [HV.out]
  go_wp2_with fail
  go_ret
  exact ⟨rfl, rfl⟩
theorem serve_any (h : Po w B p t c vs now lv L sv S) (i : Nat) (x : V) (hx : vs[i]? = some x) (hv : liveB vs now i = true) : Calls Try.prog 32 #[.pointer (some ⟨p, 0, none⟩), .int .i64 (i : Nat)] w fun e w' =>
    (x.res = false ∧ e = .returned (.int .i64 4) ∧ w' = w) ∨ (x.res = true ∧ e = .returned (.int .i64 0) ∧ Po w' B p t c (vs.set i { x with res := false }) i lv L sv S ∧ Md p t w w') := by
  have H := Lib.hid h
  have HV := Lib.hid hv
  have HX := Lib.hid hx
  obtain ⟨c48, -, -, -, hl⟩ := h.cells
  obtain ⟨-, -, c2, htl⟩ := h.at hx
  have hin : i < vs.length := (List.getElem?_eq_some_iff.1 hx).1
  have HIN := Lib.hid hin
  obtain ⟨n, hn⟩ : ∃ n, n = vs.length := ⟨_, rfl⟩
  rw [← hn] at c48 hin
  have hiz : (i : Int) < (n : Int) := by omega
  have f1 : w.frozen? ⟨t, i * 3 + 2, none⟩ = false := by obtain ⟨cs, hc⟩ := h.tAt; exact hc.frozen _
  obtain ⟨r, hrx⟩ : ∃ r, r = x.res := ⟨_, rfl⟩
  rw [← hrx] at c2 ⊢
  have HRX := Lib.hid hrx
  have f2 : w.frozen? ⟨p, 49, none⟩ = false := h.obj.frozen _
  have hpt := h.pt
  clear h hv hx hn hrx
  go_enter Try.func32, Try.ntmps32
  go_wp2_with fail
  refine (live_any H.out i).mono ?_
  rintro e w1 ⟨rfl, rfl⟩
  rw [HV.out]
  cases r with
  | false =>
    go_wp2_with fail
    go_ret
    exact ⟨rfl, rfl⟩
  | true =>
    go_upto_region 4 with fail
    have h1 := H.out.setV (j := 2) (x' := { x with res := false }) (u := .bool false) HX.out (by omega) (by simp) ⟨rfl, rfl⟩
    have HM := Lib.hid (Md.at p t (i * 3 + 2) (.bool false) w1)
    have H1 := Lib.hid h1
    clear c48 c2 f1 f2 hl htl
    generalize w1.setCell ⟨t, i * 3 + 2, none⟩ (.bool false) = W2 at *
    have f2 : W2.frozen? ⟨p, 49, none⟩ = false := h1.obj.frozen _
    obtain ⟨-, c49, -, -, hl⟩ := h1.cells
    clear h1
    go_wp2_with fail
    go_ret
    exact ⟨rfl, H1.out.setNow (by rw [List.length_set]; exact HIN.out), HM.out.trans (Md.ap _ _ _ _ _)⟩
end Go.Proofs.Ytgjecemmejaieaa

/-
  slices.Clone of servers and of members; Slots, Last.
-/
namespace Go.Proofs.Ytgjecemmejaieaa
open Go.RowKit Go.Shelf
theorem dl_one (d : Dp) : ∀ u ∈ Dp.l d, u.oneCell' = true := by
  have := dc_one d
  rw [Array.all_eq_true'] at this
  intro u hu
  exact this u (by simpa [dc] using hu)
theorem ml_one (d : Mb) : ∀ u ∈ Mb.l d, u.oneCell' = true := by
  have := mc_one d
  rw [Array.all_eq_true'] at this
  intro u hu
  exact this u (by simpa [mc] using hu)
theorem infoMb3 : (Try.prog.info? 108).map (fun i => (i.zero, i.size, i.bytes)) = some (some (.agg (mc mb0)), 19, 32) := by kernel_rfl
theorem slMb : Try.prog.underlying 48 = some (.slice 108) := by kernel_rfl
theorem rd_none {α : Type} {k n : Nat} {enc : α → List Value} {w : World} {L : List α} (h : Rd k enc w none n L) : L = [] := by
  rcases Nat.eq_zero_or_pos n with h0 | h0
  · exact List.eq_nil_of_length_eq_zero (by rw [h.1, h0])
  · obtain ⟨b, o, h1, _⟩ := h.2 h0; cases h1
set_option maxHeartbeats 1000000 in
theorem cloneD_any (a : Option Addr) (n c : Nat) (L : List Dp) (w : World) (h : Rd 18 Dp.l w a n L) (hn : n ≤ 4096) :
    Calls Try.prog 38 #[.slice a n c] w fun e w' => ∃ v, e = .returned v ∧ Sl 18 Dp.l 88 w' w.heap.size v L ∧ Below w.heap.size w w' := by
  have heq := fun (w : World) (a : Option Addr) (n c : Nat) => Lib.run_eql_slice_nil (P := Try.prog) w 59 88 a n c 0 0 slDp
  cases a with
  | none =>
    have h0 := rd_none h
    subst h0
    clear h
    go_enter Try.func38, Try.ntmps38
    go_wp2_with fail
    go_ret
    exact ⟨_, rfl, Sl.nil _ _ _ _ _, Below.refl _ _⟩
  | some ad =>
    have H := Lib.hid h
    clear h
    go_enter Try.func38, Try.ntmps38
    go_wp2_with (at_builtin; refine wpList_sl_app (B := w.heap.size) rfl Dp.l_length dl_one slDp infoDp3 (dc_size _) (by decide) (Sl.empty 18 Dp.l 88 w _ rfl (Nat.le_refl _)) (H.out.alloc _) (by simp [maxLen]; omega) (by simp; omega) (by simp) rfl rfl rfl ?_; intro v' w1 hs hm _; have HS := Lib.hid hs; have HM := Lib.hid hm; clear hs hm)
    go_ret
    exact ⟨_, rfl, HS.out, ((Below.refl _ _).alloc (Nat.le_refl _) _).trans (mod_below HM.out (by simp) (fun g hg => by simp only [Value.ownBlock, Option.some.injEq] at hg; omega))⟩
set_option maxHeartbeats 1000000 in
theorem cloneM_any (a : Option Addr) (n c : Nat) (L : List Mb) (w : World) (h : Rd 19 Mb.l w a n L) (hn : n ≤ 4096) :
    Calls Try.prog 44 #[.slice a n c] w fun e w' => ∃ v, e = .returned v ∧ Sl 19 Mb.l 108 w' w.heap.size v L ∧ Below w.heap.size w w' := by
  have heq := fun (w : World) (a : Option Addr) (n c : Nat) => Lib.run_eql_slice_nil (P := Try.prog) w 48 108 a n c 0 0 slMb
  cases a with
  | none =>
    have h0 := rd_none h
    subst h0
    clear h
    go_enter Try.func44, Try.ntmps44
    go_wp2_with fail
    go_ret
    exact ⟨_, rfl, Sl.nil _ _ _ _ _, Below.refl _ _⟩
  | some ad =>
    have H := Lib.hid h
    clear h
    go_enter Try.func44, Try.ntmps44
    go_wp2_with (at_builtin; refine wpList_sl_app (B := w.heap.size) rfl Mb.len ml_one slMb infoMb3 (mc_size _) (by decide) (Sl.empty 19 Mb.l 108 w _ rfl (Nat.le_refl _)) (H.out.alloc _) (by simp [maxLen]; omega) (by simp; omega) (by simp) rfl rfl rfl ?_; intro v' w1 hs hm _; have HS := Lib.hid hs; have HM := Lib.hid hm; clear hs hm)
    go_ret
    exact ⟨_, rfl, HS.out, ((Below.refl _ _).alloc (Nat.le_refl _) _).trans (mod_below HM.out (by simp) (fun g hg => by simp only [Value.ownBlock, Option.some.injEq] at hg; omega))⟩
variable {w w' : World} {B p t : Nat} {c : Cf} {vs : List V} {now : Nat} {lv sv : Value} {L : List Mb} {S : List Dp}
theorem slots_no (h : Po w B p t c vs now lv L sv S) (v : Int) (hv : liveB vs now v = false) : Calls Try.prog 16 #[.pointer (some ⟨p, 0, none⟩), .int .i64 v] w fun e w' => e = .returned (.slice none 0 0) ∧ w' = w := by
  have H := Lib.hid h
  have HV := Lib.hid hv
  clear h hv
  go_enter Try.func16, Try.ntmps16
  go_wp2_with fail
  refine (live_any H.out v).mono ?_
  rintro e w1 ⟨rfl, rfl⟩
  rw [HV.out]
  go_wp2_with fail
  go_ret
  exact ⟨rfl, rfl⟩
theorem slots_any (h : Po w B p t c vs now lv L sv S) (i : Nat) (x : V) (hx : vs[i]? = some x) (hv : liveB vs now i = true) (hb : x.S.length ≤ 64) : Calls Try.prog 16 #[.pointer (some ⟨p, 0, none⟩), .int .i64 (i : Nat)] w fun e w' =>
    ∃ v, e = .returned v ∧ Sl 18 Dp.l 88 w' w.heap.size v x.S ∧ Below w.heap.size w w' := by
  have H := Lib.hid h
  have HV := Lib.hid hv
  obtain ⟨c48, -, -, -, hl⟩ := h.cells
  obtain ⟨c0, -, -, htl⟩ := h.at hx
  have hin : i < vs.length := (List.getElem?_eq_some_iff.1 hx).1
  have hS := h.vers x (List.mem_of_getElem? hx)
  obtain ⟨a, q, hsv⟩ := hS.form
  rw [hsv] at hS c0
  have hr := (hS.rd Dp.l_length).1
  obtain ⟨m, hm⟩ : ∃ m, m = x.S.length := ⟨_, rfl⟩
  rw [← hm] at c0 hb hr
  obtain ⟨n, hn⟩ : ∃ n, n = vs.length := ⟨_, rfl⟩
  rw [← hn] at c48 hin
  have hiz : (i : Int) < (n : Int) := by omega
  have HR := Lib.hid hr
  clear h hv hx hn hS hsv hm hr
  go_enter Try.func16, Try.ntmps16
  go_wp2_with fail
  refine (live_any H.out i).mono ?_
  rintro e w1 ⟨rfl, rfl⟩
  rw [HV.out]
  go_wp2_with fail
  refine (cloneD_any a m q x.S _ HR.out (by omega)).mono ?_
  rintro e w2 ⟨v, rfl, hs, hb2⟩
  have HS := Lib.hid (And.intro hs hb2)
  clear hs hb2
  go_wp2_with fail
  go_ret
  exact ⟨v, rfl, HS.out.1, HS.out.2⟩
end Go.Proofs.Ytgjecemmejaieaa

/-
  slots.Fill, whole: also where nobody serves.
-/
namespace Go.Proofs.Ytgjecemmejaieaa
open Go.RowKit Go.Shelf
def fillR (O : List Dp) (M : List Mb) (n : Nat) : List Dp := if M.length = 0 then [] else fillOf O M n
theorem fillR_len (O : List Dp) (M : List Mb) (n : Nat) (hok : mOk M = true) : (fillR O M n).length = 0 ∨ (fillR O M n).length = n := by
  unfold fillR
  split
  · exact .inl rfl
  · exact .inr (fillOf_len O M n (sharesOf_facts hok (by omega)))
set_option maxHeartbeats 2000000 in
theorem fill_all (ao am : Option Addr) (no co nm cm n : Nat) (O : List Dp) (M : List Mb) (w : World) (hO : Rd 18 Dp.l w ao no O) (hM : Rd 19 Mb.l w am nm M) (hok : mOk M = true) (h1 : 1 ≤ n) (h2 : n ≤ 64) (h3 : no = 0 ∨ no = n) :
    Calls Try.prog 43 #[.slice ao no co, .slice am nm cm, .int .i64 n] w fun e w' => ∃ v, e = .returned (.tuple #[v, .int .i64 0]) ∧ Sl 18 Dp.l 88 w' w.heap.size v (fillR O M n) ∧ Below w.heap.size w w' := by
  by_cases h0 : 0 < nm
  · have := fill_any ao am no co nm cm n O M w hO hM hok h1 h2 h3 h0
    rw [show fillR O M n = fillOf O M n by unfold fillR; rw [if_neg (by rw [hM.1]; omega)]]
    exact this
  · have hz : nm = 0 := by omega
    subst hz
    have HR := Lib.hid (show fillR O M n = [] by unfold fillR; rw [if_pos hM.1])
    have HM := Lib.hid hM
    have HCK := Lib.hid (mChk_yes hok)
    have d1 : decide ((n : Int) < 1) = false := by simp; omega
    have d2 : decide (64 < (n : Int)) = false := by simp; omega
    clear hM hok h0 hO
    go_enter Try.func43, Try.ntmps43
    go_upto_region 1 with fail
    obtain ⟨bo, hbo⟩ : ∃ bo, bo = w.heap.size := ⟨_, rfl⟩
    rw [← hbo]
    have HAO := Lib.hid (at_new w 59 #[.slice ao no co] bo hbo)
    replace HM := Lib.hid (HM.out.alloc (.cells #[.slice ao no co] 59))
    have HB := Lib.hid ((Below.refl w.heap.size w).alloc (Nat.le_refl _) (.cells #[.slice ao no co] 59))
    clear hbo
    generalize w.alloc (.cells #[.slice ao no co] 59) = W at *
    go_wp2_with fail
    refine (mcheck_any am 0 cm M _ HM.out).mono ?_
    rintro e w1 ⟨rfl, hb⟩
    rw [HCK.out]
    have hao := HAO.out.below hb HAO.out.lt
    have co := hao.cell 0
    simp only [List.getElem?_toArray, List.getElem?_cons_zero] at co
    have l1 := hao.lt
    have HB1 := Lib.hid (step_below HB.out hb)
    clear hb hao
    rcases h3 with rfl | rfl
    · go_wp2_with fail
      go_ret2
      rw [HR.out]
      exact ⟨_, rfl, Sl.nil _ _ _ _ _, HB1.out⟩
    · have d3 : decide ((0 : Int) < (no : Int)) = true := by simp; omega
      go_wp2_with fail
      go_ret2
      rw [HR.out]
      exact ⟨_, rfl, Sl.nil _ _ _ _ _, HB1.out⟩
end Go.Proofs.Ytgjecemmejaieaa

/-
  Reserve.
-/
namespace Go.Proofs.Ytgjecemmejaieaa
open Go.RowKit Go.Shelf
theorem pc_last (c : Cf) (l : Value) (now : Nat) (lv lv' sv : Value) : (pc c l now lv sv).setIfInBounds 50 lv' = pc c l now lv' sv := by
  unfold pc
  have : (cc c).size = 48 := cc_size c
  rw [Array.setIfInBounds_append_right (by omega), this]; rfl
theorem pc_sl (c : Cf) (l : Value) (now : Nat) (lv sv sv' : Value) : (pc c l now lv sv).setIfInBounds 51 sv' = pc c l now lv sv' := by
  unfold pc
  have : (cc c).size = 48 := cc_size c
  rw [Array.setIfInBounds_append_right (by omega), this]; rfl
variable {w w' : World} {B p t : Nat} {c : Cf} {vs : List V} {now : Nat} {lv sv : Value} {L : List Mb} {S : List Dp}
theorem Po.slotsCell (h : Po w B p t c vs now lv L sv S) : w.cell? ⟨p, 5, none⟩ = some (.int .i64 c.slots) := by
  rw [h.obj.cell, pc_lo _ _ _ _ _ _ (by omega)]
  exact cl_head c 5 (by omega)
theorem Po.setLast (h : Po w B p t c vs now lv L sv S) {lv' : Value} {L' : List Mb} (hl : Sl 19 Mb.l 108 w B lv' L') : Po (w.setCell ⟨p, 50, none⟩ lv') B p t c vs now lv' L' sv S := by
  have hne := h.pt
  refine ⟨?_, ?_, h.bp, ?_, ?_, ?_, h.lt, h.big⟩
  · have := h.obj.set 50 lv'
    rw [pc_last] at this
    exact this
  · exact h.arr.far (p := ⟨p, 50, none⟩) (by simp only [Value.ownBlock, ne_eq, Option.some.injEq]; omega) _
  · exact fun v hv => (h.vers v hv).far (p := ⟨p, 50, none⟩) ((h.vers v hv).ne h.obj (by decide)) _
  · exact hl.far (p := ⟨p, 50, none⟩) (hl.ne h.obj (by decide)) _
  · exact h.sl.far (p := ⟨p, 50, none⟩) (h.sl.ne h.obj (by decide)) _
theorem Po.setSl (h : Po w B p t c vs now lv L sv S) {sv' : Value} {S' : List Dp} (hl : Sl 18 Dp.l 88 w B sv' S') : Po (w.setCell ⟨p, 51, none⟩ sv') B p t c vs now lv L sv' S' := by
  have hne := h.pt
  refine ⟨?_, ?_, h.bp, ?_, ?_, ?_, h.lt, h.big⟩
  · have := h.obj.set 51 sv'
    rw [pc_sl] at this
    exact this
  · exact h.arr.far (p := ⟨p, 51, none⟩) (by simp only [Value.ownBlock, ne_eq, Option.some.injEq]; omega) _
  · exact fun v hv => (h.vers v hv).far (p := ⟨p, 51, none⟩) ((h.vers v hv).ne h.obj (by decide)) _
  · exact h.last.far (p := ⟨p, 51, none⟩) (h.last.ne h.obj (by decide)) _
  · exact hl.far (p := ⟨p, 51, none⟩) (hl.ne h.obj (by decide)) _
theorem Sl.setCellsNe {α : Type} {k : Nat} {enc : α → List Value} {e : TypeId} {w : World} {B t : Nat} {v : Value} {L : List α} (h : Sl k enc e w B v L) (hv : v.ownBlock ≠ some t) (o : Nat) (xs : List Value) : Sl k enc e (w.setCells t o xs) B v L :=
  h.mod (Mod.setCells (M := fun g => g = t) rfl xs o w) (fun g hg e => hv (by rw [hg, e]))
/-- A version made anew. -/
theorem Po.setWhole (h : Po w B p t c vs now lv L sv S) {i : Nat} (hi : i < vs.length) (x : V) (hx : Sl 18 Dp.l 88 w B x.sv x.S) : Po (w.setCells t (i * 3) (V.l x)) B p t c (vs.set i x) now lv L sv S := by
  obtain ⟨cs, hc⟩ := h.tAt
  have hne := h.pt
  refine ⟨?_, ?_, h.bp, ?_, ?_, ?_, by rw [List.length_set]; exact h.lt, by rw [List.length_set]; exact h.big⟩
  · rw [List.length_set]; exact h.obj.mod (Mod.setCells (M := fun g => g = t) rfl (V.l x) (i * 3) w) hne
  · rw [List.length_set]; exact Sl.set V.len hi h.arr
  · intro v hv
    rcases List.mem_or_eq_of_mem_set hv with hv | rfl
    · exact (h.vers v hv).setCellsNe ((h.vers v hv).ne hc (by decide)) _ _
    · exact hx.setCellsNe (hx.ne hc (by decide)) _ _
  · exact h.last.setCellsNe (h.last.ne hc (by decide)) _ _
  · exact h.sl.setCellsNe (h.sl.ne hc (by decide)) _ _
theorem Po.store (h : Po w B p t c vs now lv L sv S) {i : Nat} (hi : i < vs.length) (x : V) (h1 : x.sv.oneCell' = true) : (storeCells ⟨t, i * 3, none⟩ (V.l x) 0).run Try.prog w = .ok () (w.setCells t (i * 3) (V.l x)) := by
  rcases h.arr.cases with ⟨h1, _⟩ | ⟨g, c', cur, e1, h2, h3, h4, h5, h6, _⟩
  · simp at h1
  · simp only [Value.slice.injEq, Option.some.injEq, Addr.mk.injEq, and_true] at e1
    obtain ⟨rfl, _, rfl⟩ := e1
    have := store_at (P := Try.prog) w t (i * 3) _ cur (V.l x).toArray h3 (by simp; omega) (by simp [h1]; exact ⟨rfl, rfl⟩)
    simpa using this
theorem Po.le (h : Po w B p t c vs now lv L sv S) : B ≤ w.heap.size := by have := h.bp; have := h.obj.lt; omega
theorem Po.frz (h : Po w B p t c vs now lv L sv S) (i : Nat) : w.frozen? ⟨p, i, none⟩ = false ∧ w.frozen? ⟨t, i, none⟩ = false := by
  obtain ⟨cs, hc⟩ := h.tAt
  exact ⟨h.obj.frozen _, hc.frozen _⟩
set_option maxRecDepth 100000 in
set_option maxHeartbeats 4000000 in
theorem reserve_any (am : Option Addr) (nm cm B2 n : Nat) (M : List Mb) (h : Po w B p t c vs now lv L sv S) (hM : Sl 19 Mb.l 108 w B2 (.slice am nm cm) M) (hok : mOk M = true) (hn : c.slots = n) (h1 : 1 ≤ n) (h2 : n ≤ 64) (hS : S.length = 0 ∨ S.length = n) :
    Calls Try.prog 29 #[.pointer (some ⟨p, 0, none⟩), .slice am nm cm] w fun e w' => ∃ v, v ≤ vs.length ∧ (∀ i : Nat, i < v → liveB vs now i = true) ∧
      ((v = vs.length ∧ e = .returned (.tuple #[.int .i64 0, .int .i64 3]) ∧ Below w.heap.size w w') ∨
       (v < vs.length ∧ liveB vs now v = false ∧ e = .returned (.tuple #[.int .i64 (v : Nat), .int .i64 0]) ∧ ∃ lv' sv', Po w' B p t c (vs.set v ⟨sv', fillR S M n, 0, true⟩) now lv' M sv' (fillR S M n) ∧ Md p t w w')) := by
  have H := Lib.hid h
  have HM := Lib.hid hM
  have HOK := Lib.hid hok
  have HCK := Lib.hid (mChk_yes hok)
  have HSL := Lib.hid hS
  have HN := Lib.hid hn
  have HLE := Lib.hid (show nm ≤ 32 by have := (mOk_w hok).1; have := (hM.rd Mb.len).2.1; omega)
  clear h hM hok hS hn
  go_enter Try.func29, Try.ntmps29
  go_wp2_with fail
  refine (mcheck_any am nm cm M _ (HM.out.rd Mb.len).1).mono ?_
  rintro e w1 ⟨rfl, hb⟩
  rw [HCK.out]
  replace H := Lib.hid (H.out.below hb)
  replace HM := Lib.hid (HM.out.below hb)
  have HB := Lib.hid hb
  clear hb
  go_wp2_with fail
  go_loopw [6] (fun s6 wx => ∃ v : Nat, s6 = .int .i64 (v : Nat) ∧ v ≤ vs.length ∧ (∀ i : Nat, i < v → liveB vs now i = true) ∧ wx = w1) (fun s6 _ => vs.length - (intOf s6).toNat)
  case atStart => exact ⟨0, rfl, Nat.zero_le _, fun i hi => absurd hi (by omega), rfl⟩
  case round =>
    obtain ⟨v, rfl, hv, ha, rfl⟩ := hrel
    have HA := Lib.hid ha
    clear ha
    obtain ⟨nv, hnv⟩ : ∃ m, m = vs.length := ⟨_, rfl⟩
    rw [← hnv] at hv ⊢
    have HNV := Lib.hid hnv
    have hvb : nv ≤ 4096 := by rw [hnv]; exact H.out.big
    clear hnv
    go_wp2_with fail
    refine (live_any H.out v).mono ?_
    rintro e w2 ⟨rfl, rfl⟩
    cases hq : liveB vs now (v : Int) with
    | true =>
      have HQ := Lib.hid hq
      have hvl : v < nv := by
        rcases Nat.lt_or_ge v nv with h | h
        · exact h
        · rw [liveB_big (by have := HNV.out; omega)] at hq; cases hq
      clear hq
      go_wp2_with fail
      go_roundw
      case rel => exact ⟨v + 1, by simp, by have := HNV.out; omega, fun i hi => by
        rcases Nat.lt_or_ge i v with h | h
        · exact HA.out i h
        · rw [show i = v by omega]; exact HQ.out, trivial⟩
      case measure => simp [intOf] <;> omega
    | false =>
      have HQ := Lib.hid hq
      clear hq
      obtain ⟨c48, -, -, c51, hl⟩ := H.out.cells
      rw [← HNV.out] at c48
      by_cases hlt : v < nv
      · have hvz : (v : Int) < (nv : Int) := by omega
        have hvz2 : decide ((nv : Int) ≤ (v : Int)) = false := by simp; omega
        have hvz3 : decide (nv ≤ v) = false := by simp; omega
        clear hv
        obtain ⟨ao, co, hsv⟩ := H.out.sl.form
        obtain ⟨no, hno⟩ : ∃ m, m = S.length := ⟨_, rfl⟩
        rw [← hno] at hsv
        subst hsv
        have HNO := Lib.hid hno
        have c5 := H.out.slotsCell
        rw [HN.out] at c5
        clear hno
        go_wp2_with fail
        refine region_sq (fun i => i = p ∧ i ≠ p) [(0, true), (1, true), (2, true), (3, true), (4, true), (5, true), (6, true), (7, true), (8, true), (9, true), (10, false), (11, true), (12, true), (13, true), (14, true), (15, true)] (by kernel_rfl) (by kernel_rfl) (fun _ _ d _ _ h => by cases d <;> exact h) ?_
        repeat (first
          | (refine sq_yes rfl (by rfl) (fun w' hM => by ((try replace hM := hM.of_drew); obtain ⟨hR1, hR2, hR3⟩ := hM.rules; have hA := hM.agg; obtain ⟨hA1, hA2⟩ := hA; clear hM; go_simp; with_reducible rfl)) ?_; simp only [Act.put, List.setIfInBounds_toArray, List.set_cons_zero, List.set_cons_succ])
          | (refine sq_no rfl (by rfl) ?_; simp only [Act.put, List.setIfInBounds_toArray, List.set_cons_zero, List.set_cons_succ]))
        refine sq_do_yes rfl (by rfl) (fun K hK => ?_)
        go_wp2_with fail
        refine (fill_all ao am no co nm cm n S M _ (H.out.drew.sl.rd Dp.l_length).1 (HM.out.drew.rd Mb.len).1 HOK.out h1 h2 (by have := HSL.out; have := HNO.out; omega)).mono ?_
        rintro e w3 ⟨svn, rfl, hs3, hb3⟩
        have HB3 := Lib.hid hb3
        have HS3 := Lib.hid (hs3.base (show B ≤ w2.drew.heap.size from H.out.le))
        clear hs3
        go_wp2_with fail
        refine ⟨Mod.of_below hb3, ?_⟩
        clear hb3
        repeat (first
          | (refine sq_yes rfl (by rfl) (fun w' hM => by ((try replace hM := hM.of_drew); obtain ⟨hR1, hR2, hR3⟩ := hM.rules; have hA := hM.agg; obtain ⟨hA1, hA2⟩ := hA; clear hM; go_simp; with_reducible rfl)) ?_; simp only [Act.put, List.setIfInBounds_toArray, List.set_cons_zero, List.set_cons_succ])
          | (refine sq_no rfl (by rfl) ?_; simp only [Act.put, List.setIfInBounds_toArray, List.set_cons_zero, List.set_cons_succ]))
        refine sq_end ?_
        replace H := Lib.hid (H.out.drew.below HB3.out)
        replace HM := Lib.hid (HM.out.drew.below HB3.out)
        replace HB := Lib.hid (step_below HB.out.drew HB3.out)
        clear c48 c51 hl c5
        obtain ⟨an, cn, hsn⟩ := HS3.out.form
        obtain ⟨ln, hln⟩ : ∃ m, m = (fillR S M n).length := ⟨_, rfl⟩
        rw [← hln] at hsn
        subst hsn
        clear hln
        have hvl : v < vs.length := by have := HNV.out; omega
        obtain ⟨xo, hxo⟩ : ∃ x, vs[v]? = some x := ⟨_, List.getElem?_eq_getElem hvl⟩
        obtain ⟨c0, c1, c2, htl⟩ := H.out.at hxo
        have H4 := Lib.hid (H.out.setWhole hvl ⟨.slice an ln cn, fillR S M n, 0, true⟩ HS3.out)
        simp only [V.l, Int.natCast_zero] at H4
        have HM4 := Lib.hid (Mod.setCells (M := fun g => g = p ∨ g = t) (g := t) (.inr rfl) [.slice an ln cn, .int .i64 0, .bool true] (v * 3) w3)
        have HMM := Lib.hid (HM.out.setCellsNe (t := t) (by obtain ⟨cs, hc⟩ := H.out.tAt; exact HM.out.ne hc (by decide)) (v * 3) [.slice an ln cn, .int .i64 0, .bool true])
        have HSS := Lib.hid (HS3.out.setCellsNe (t := t) (by obtain ⟨cs, hc⟩ := H.out.tAt; exact HS3.out.ne hc (by decide)) (v * 3) [.slice an ln cn, .int .i64 0, .bool true])
        have f1 := (H.out.frz (v * 3)).2
        have f2 := (H.out.frz (v * 3 + 1)).2
        have f3 := (H.out.frz (v * 3 + 2)).2
        obtain ⟨c48, -, -, -, hl⟩ := H.out.cells
        rw [← HNV.out] at c48
        have hvz : (v : Int) < (nv : Int) := by omega
        clear hvl hxo
        go_upto_region 12 with fail
        rw [show ((w3.setCell ⟨t, v * 3, none⟩ (.slice an ln cn)).setCell ⟨t, v * 3 + 1, none⟩ (.int .i64 0)).setCell ⟨t, v * 3 + 2, none⟩ (.bool true) = w3.setCells t (v * 3) [.slice an ln cn, .int .i64 0, .bool true] from rfl]
        clear c0 c1 c2 f1 f2 f3 c48 hl htl hvz
        generalize w3.setCells t (v * 3) [.slice an ln cn, .int .i64 0, .bool true] = W4 at *
        go_wp2_with fail
        refine (cloneM_any am nm cm M _ (HMM.out.rd Mb.len).1 (by have := HLE.out; omega)).mono ?_
        rintro e w5 ⟨lvn, rfl, hs5, hb5⟩
        obtain ⟨al, cl, hlv⟩ := hs5.form
        obtain ⟨ll, hll⟩ : ∃ m, m = M.length := ⟨_, rfl⟩
        rw [← hll] at hlv
        subst hlv
        clear hll
        have H5 := Lib.hid (H4.out.below hb5)
        have HSS5 := Lib.hid (HSS.out.below hb5)
        have HL5 := Lib.hid (hs5.base H4.out.le)
        have HM5 := Lib.hid (HM4.out.trans (Mod.of_below (M := fun g => g = p ∨ g = t) hb5))
        clear hs5 hb5
        have H6 := Lib.hid (H5.out.setLast HL5.out)
        have HSS6 := Lib.hid (HSS5.out.far (p := ⟨p, 50, none⟩) (HSS5.out.ne H5.out.obj (by decide)) (.slice al ll cl))
        have H7 := Lib.hid (H6.out.setSl HSS6.out)
        have HM7 := Lib.hid ((HM5.out.trans (Md.ap p t 50 (.slice al ll cl) w5)).trans (Md.ap p t 51 (.slice an ln cn) _))
        obtain ⟨-, -, c50, c51, hl⟩ := H5.out.cells
        have f1 := (H5.out.frz 50).1
        have f2 := (H5.out.frz 51).1
        have f3 := (H6.out.frz 51).1
        obtain ⟨-, -, -, c51', hl'⟩ := H6.out.cells
        go_wp2_with fail
        go_ret2
        exact ⟨v, by have := HNV.out; omega, HA.out, .inr ⟨by have := HNV.out; omega, HQ.out, rfl, .slice al ll cl, .slice an ln cn, H7.out, (show Md p t w w3 from Mod.of_below HB.out).trans HM7.out⟩⟩
      · have hvz : (nv : Int) ≤ (v : Int) := by omega
        have hvz3 : nv ≤ v := by omega
        have HV := Lib.hid (show v = nv by omega)
        clear hlt hv
        go_wp2_with fail
        go_ret2
        exact ⟨v, by have := HV.out; have := HNV.out; omega, HA.out, .inl ⟨HV.out.trans HNV.out, rfl, HB.out⟩⟩
end Go.Proofs.Ytgjecemmejaieaa

/-
  New: what is built.
-/
namespace Go.Proofs.Ytgjecemmejaieaa
open Go.RowKit Go.Shelf
theorem foldl_spliceP (off : Nat) : ∀ (L : List Value) (k : Nat) (cs : Array Value), (L.zipIdx k).foldl (fun cs (x : Value × Nat) => cs.setIfInBounds (off + x.2) x.1) cs = splice cs (off + k) L
  | [], _, _ => rfl
  | v :: r, k, cs => by rw [List.zipIdx_cons, List.foldl_cons, foldl_spliceP off r (k + 1)]; rfl
theorem exec_bldP (parts : Array (Nat × Operand)) (dst : Option Tmp) (ty : TypeId) (pos : String) (after : Array Edge) (g : Option (Nat × Bool)) (f : Operand → Value) (w : World) :
    (execOp f ⟨dst, .build 93 parts, ty, pos, after, g⟩).run Try.prog w = bldX Try.prog 93 (parts.map fun (i, x) => (i, f x)) w := rfl
/-- The zero value's cells. -/
noncomputable def zP : Array Value := match (Try.prog.info? 93).bind (·.zero) with | some z => z.cells | none => #[]
theorem zP_ok : (zP.size == 52 && (match (zP[49]? : Option Value) with | some (.int .i64 0) => true | _ => false)) = true := by kernel_rfl
theorem builtP_fill (X : List (Nat × Value)) : Try.prog.built 93 X = Instr.fill (#[(0, 48), (48, 1), (49, 1), (50, 1), (51, 1)][·]?) zP X := by kernel_rfl
set_option maxRecDepth 100000 in
theorem built_pc (c : Cf) (a1 a2 a3 : Option Addr) (n1 c1 n2 c2 n3 c3 : Nat) : Try.prog.built 93 [(0, .agg (cc c)), (1, .slice a1 n1 c1), (3, .slice a2 n2 c2), (4, .slice a3 n3 c3)] = some (pc c (.slice a1 n1 c1) 0 (.slice a2 n2 c2) (.slice a3 n3 c3)) := by
  have hz := zP_ok
  simp only [Bool.and_eq_true, beq_iff_eq] at hz
  rw [builtP_fill]
  generalize zP = z at hz ⊢
  have hc : (Value.agg (cc c)).cells = cc c := rfl
  have h1 : Instr.fill (#[(0, 48), (48, 1), (49, 1), (50, 1), (51, 1)][·]?) z [(0, .agg (cc c)), (1, .slice a1 n1 c1), (3, .slice a2 n2 c2), (4, .slice a3 n3 c3)] = some ((((splice z 0 (cc c).toList).setIfInBounds 48 (.slice a1 n1 c1)).setIfInBounds 50 (.slice a2 n2 c2)).setIfInBounds 51 (.slice a3 n3 c3)) := by
    have hf : (cc c).zipIdx.foldl (fun cs (x : Value × Nat) => cs.setIfInBounds (0 + x.2) x.1) z = splice z 0 (cc c).toList := by
      rw [← foldl_spliceP 0 (cc c).toList 0 z, ← Array.foldl_toList, Array.toList_zipIdx]
    simp only [Instr.fill, List.getElem?_toArray, List.getElem?_cons_zero, List.getElem?_cons_succ, hc, cc_size]
    rw [if_neg (by simp [hz.1])]
    rw [hf]
    simp [Value.cells, splice_size, hz.1]
  rw [h1]
  refine congrArg some (Array.ext_getElem? ?_)
  intro j
  simp only [Array.getElem?_setIfInBounds, Array.size_setIfInBounds, splice_size, hz.1]
  rw [splice_get _ _ _ _ (by simp [cc_size, hz.1])]
  rcases Nat.lt_or_ge j 48 with h | h
  · rw [if_neg (by omega), if_neg (by omega), if_neg (by omega), if_pos (by simp [cc_size]; omega), pc_lo _ _ _ _ _ _ h]
    simp
  · obtain ⟨i, rfl⟩ : ∃ i, j = 48 + i := ⟨j - 48, by omega⟩
    rw [pc_hi]
    rcases Nat.lt_or_ge i 4 with h4 | h4
    · have : i = 0 ∨ i = 1 ∨ i = 2 ∨ i = 3 := by omega
      rcases this with rfl | rfl | rfl | rfl
      · rw [if_neg (by omega), if_neg (by omega), if_pos (by omega), if_pos (by omega)] <;> rfl
      · rw [if_neg (by omega), if_neg (by omega), if_neg (by omega), if_neg (by simp [cc_size])]
        have := hz.2
        split at this
        · assumption
        · cases this
      · rw [if_neg (by omega), if_pos (by omega), if_pos (by omega)] <;> rfl
      · rw [if_pos (by omega), if_pos (by omega)] <;> rfl
    · rw [if_neg (by omega), if_neg (by omega), if_neg (by omega), if_neg (by simp [cc_size]), Array.getElem?_eq_none (by rw [hz.1]; omega), Array.getElem?_eq_none (by simp; omega)]
theorem build_pc (c : Cf) (a1 a2 a3 : Option Addr) (n1 c1 n2 c2 n3 c3 : Nat) (w : World) : bldX Try.prog 93 #[(0, .agg (cc c)), (1, .slice a1 n1 c1), (3, .slice a2 n2 c2), (4, .slice a3 n3 c3)] w = .ok (.value (.agg (pc c (.slice a1 n1 c1) 0 (.slice a2 n2 c2) (.slice a3 n3 c3)))) w := bldX_of w (built_pc c a1 a2 a3 n1 c1 n2 c2 n3 c3)
def v0 : V := ⟨.slice none 0 0, [], 0, false⟩
theorem infoV : (Try.prog.info? 90).map (fun i => (i.zero, i.size, i.bytes)) = some (some (.agg (V.l v0).toArray), 3, 40) := by kernel_rfl
theorem slV : Try.prog.underlying 91 = some (.slice 90) := by kernel_rfl
theorem makeV (n : Nat) (hn : n ≤ 4096) (w : World) : (Instr.makeSlice 91 (.int .i64 (n : Int)) (.int .i64 (n : Int))).run Try.prog w = .ok (.slice (some ⟨w.heap.size, 0, none⟩) n n) (w.alloc (.cells ((List.replicate n v0).flatMap V.l).toArray 90)) := by
  obtain ⟨i0, hi, hz0, hz1, hz2⟩ := info_parts infoV
  have := run_make (P := Try.prog) w 91 90 i0 _ slV hi hz0 .i64 .i64 n n (by omega) (by omega) (by rw [hz2]; omega) (by omega)
  rw [hz1, Int.toNat_natCast] at this
  rw [this, show (Value.agg (V.l v0).toArray).cells = (V.l v0).toArray from rfl, made_flat V.len (by omega)]
end Go.Proofs.Ytgjecemmejaieaa
