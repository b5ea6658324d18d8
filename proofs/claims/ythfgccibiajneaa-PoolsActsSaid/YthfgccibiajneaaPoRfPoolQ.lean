/-
  The document's pool: the heap's picture; live, Ref, Unref, Refs, Serve, Slots.
-/
import Derived.Test.YthfgccibiajneaaPoRfFillQ
namespace Go.Proofs.Ythfgccibiajneaa
open Go.RowKit Go.Shelf
def rpc (c : Cf) (l : Value) (now last : Nat) (mv : Value) : Array Value := cc c ++ #[l, .int .i64 (now : Nat), .int .i64 (last : Nat), mv]
@[go_sem] theorem rpc_size (c : Cf) (l : Value) (now last : Nat) (mv : Value) : (rpc c l now last mv).size = 52 := by simp [rpc, cc_size]
theorem rpc_hi (c : Cf) (l : Value) (now last : Nat) (mv : Value) (j : Nat) : (rpc c l now last mv)[48 + j]? = #[l, .int .i64 (now : Nat), .int .i64 (last : Nat), mv][j]? := by
  unfold rpc; rw [Array.getElem?_append_right (by rw [cc_size]; omega), cc_size]; congr 1; omega
theorem rpc_lo (c : Cf) (l : Value) (now last : Nat) (mv : Value) (j : Nat) (h : j < 48) : (rpc c l now last mv)[j]? = (cc c)[j]? := by
  unfold rpc; rw [Array.getElem?_append_left (by rw [cc_size]; exact h)]
theorem rpc_set (c : Cf) (l : Value) (now last : Nat) (mv u : Value) (j : Nat) : (rpc c l now last mv).setIfInBounds (48 + j) u = cc c ++ (#[l, .int .i64 (now : Nat), .int .i64 (last : Nat), mv].setIfInBounds j u) := by
  unfold rpc
  have : (cc c).size = 48 := cc_size c
  rw [Array.setIfInBounds_append_right (by omega), this]
  congr 2
  omega
theorem rpc_now (c : Cf) (l : Value) (now now' last : Nat) (mv : Value) : (rpc c l now last mv).setIfInBounds 49 (.int .i64 (now' : Nat)) = rpc c l now' last mv := rpc_set c l now last mv _ 1
theorem rpc_last (c : Cf) (l : Value) (now last last' : Nat) (mv : Value) : (rpc c l now last mv).setIfInBounds 50 (.int .i64 (last' : Nat)) = rpc c l now last' mv := rpc_set c l now last mv _ 2
theorem rpc_m (c : Cf) (l : Value) (now last : Nat) (mv mv' : Value) : (rpc c l now last mv).setIfInBounds 51 mv' = rpc c l now last mv' := rpc_set c l now last mv _ 3
/-- A version of the document's. -/
structure RV where
  lv : Bool
  res : Bool
  refs : Nat
  sv : Value
  S : List Dp
abbrev RV.l (v : RV) : List Value := [.bool v.lv, .bool v.res, .int .i64 (v.refs : Nat), v.sv]
theorem RV.len (v : RV) : (RV.l v).length = 4 := rfl
/-- .. as one of the pool's. -/
def RV.v (r : RV) : V := ⟨r.sv, r.S, r.refs, r.res⟩
abbrev rvs (rs : List RV) : List V := rs.map RV.v
structure Rp (w : World) (B p t : Nat) (c : Cf) (rs : List RV) (now last : Nat) (mv : Value) (M : List Mb) : Prop where
  obj : At w p 107 (rpc c (.slice (some ⟨t, 0, none⟩) rs.length rs.length) now last mv)
  arr : Sl 4 RV.l 177 w B (.slice (some ⟨t, 0, none⟩) rs.length rs.length) rs
  bp : B ≤ p
  vers : ∀ r ∈ rs, Sl 18 Dp.l 92 w B r.sv r.S
  ml : Sl 19 Mb.l 95 w B mv M
  lt : now < rs.length
  ltl : last < rs.length
  big : rs.length ≤ 4096
variable {w w' : World} {B p t : Nat} {c : Cf} {rs : List RV} {now last : Nat} {mv : Value} {M : List Mb}
theorem Rp.same (h : Rp w B p t c rs now last mv M) (hb : ∀ g, B ≤ g → g < w.heap.size → w'.heap[g]? = w.heap[g]?) : Rp w' B p t c rs now last mv M where
  obj := (hb p h.bp h.obj.lt).trans h.obj
  arr := h.arr.same fun g hg hl => hb g (h.arr.ge hg).1 hl
  bp := h.bp
  vers := fun v hv => (h.vers v hv).same fun g hg hl => hb g ((h.vers v hv).ge hg).1 hl
  ml := h.ml.same fun g hg hl => hb g (h.ml.ge hg).1 hl
  lt := h.lt
  ltl := h.ltl
  big := h.big
theorem Rp.below (h : Rp w B p t c rs now last mv M) (hb : Below w.heap.size w w') : Rp w' B p t c rs now last mv M := h.same fun g _ hl => hb.block g hl
theorem Rp.alloc (h : Rp w B p t c rs now last mv M) (o : Obj) : Rp (w.alloc o) B p t c rs now last mv M := h.same fun g _ hl => Below.heap_alloc w o g hl
theorem Rp.drew (h : Rp w B p t c rs now last mv M) : Rp w.drew B p t c rs now last mv M := h.same fun _ _ _ => rfl
theorem Rp.cells (h : Rp w B p t c rs now last mv M) : w.cell? ⟨p, 48, none⟩ = some (.slice (some ⟨t, 0, none⟩) rs.length rs.length) ∧ w.cell? ⟨p, 49, none⟩ = some (.int .i64 (now : Nat)) ∧ w.cell? ⟨p, 50, none⟩ = some (.int .i64 (last : Nat)) ∧ w.cell? ⟨p, 51, none⟩ = some mv ∧ p < w.heap.size := by
  refine ⟨?_, ?_, ?_, ?_, h.obj.lt⟩
  · rw [h.obj.cell]; exact rpc_hi _ _ _ _ _ 0
  · rw [h.obj.cell]; exact rpc_hi _ _ _ _ _ 1
  · rw [h.obj.cell]; exact rpc_hi _ _ _ _ _ 2
  · rw [h.obj.cell]; exact rpc_hi _ _ _ _ _ 3
theorem Rp.at (h : Rp w B p t c rs now last mv M) {i : Nat} {v : RV} (hv : rs[i]? = some v) : w.cell? ⟨t, i * 4 + 1, none⟩ = some (.bool v.res) ∧ w.cell? ⟨t, i * 4 + 2, none⟩ = some (.int .i64 (v.refs : Nat)) ∧ w.cell? ⟨t, i * 4 + 3, none⟩ = some v.sv ∧ t < w.heap.size := by
  obtain ⟨b, o, hbo, hlt, hc⟩ := (h.arr.rd RV.len).1.2 (by have := (List.getElem?_eq_some_iff.1 hv).1; omega)
  simp only [Option.some.injEq, Addr.mk.injEq, and_true] at hbo
  obtain ⟨rfl, rfl⟩ := hbo
  have h1 := hc i v hv 1 (by omega)
  have h2 := hc i v hv 2 (by omega)
  have h3 := hc i v hv 3 (by omega)
  simp only [Nat.zero_add, RV.l, List.getElem?_cons_zero, List.getElem?_cons_succ] at h1 h2 h3
  exact ⟨h1, h2, h3, hlt⟩
theorem Rp.tAt (h : Rp w B p t c rs now last mv M) : ∃ cs, At w t 177 cs := by
  rcases h.arr.cases with ⟨h1, _⟩ | ⟨g, c', cur, h1, h2, h3, _⟩
  · simp at h1
  · simp only [Value.slice.injEq, Option.some.injEq, Addr.mk.injEq, and_true] at h1
    obtain ⟨rfl, _⟩ := h1
    exact ⟨_, h3⟩
theorem Rp.pt (h : Rp w B p t c rs now last mv M) : p ≠ t := by
  obtain ⟨cs, hc⟩ := h.tAt
  exact h.obj.ne hc (by decide)
theorem Rp.bt (h : Rp w B p t c rs now last mv M) : B ≤ t := (h.arr.ge rfl).1
theorem Rp.le (h : Rp w B p t c rs now last mv M) : B ≤ w.heap.size := by have := h.bp; have := h.obj.lt; omega
theorem Rp.frz (h : Rp w B p t c rs now last mv M) (i : Nat) : w.frozen? ⟨p, i, none⟩ = false ∧ w.frozen? ⟨t, i, none⟩ = false := by
  obtain ⟨cs, hc⟩ := h.tAt
  exact ⟨h.obj.frozen _, hc.frozen _⟩
/-- A version turned, by a cell. -/
theorem Rp.setV (h : Rp w B p t c rs now last mv M) {i j : Nat} {x x' : RV} {u : Value} (hx : rs[i]? = some x) (hj : j < 4) (hx' : RV.l x' = (RV.l x).set j u) (hs : x'.sv = x.sv ∧ x'.S = x.S) :
    Rp (w.setCell ⟨t, i * 4 + j, none⟩ u) B p t c (rs.set i x') now last mv M := by
  obtain ⟨cs, hc⟩ := h.tAt
  have hne := h.pt
  refine ⟨?_, ?_, h.bp, ?_, ?_, by rw [List.length_set]; exact h.lt, by rw [List.length_set]; exact h.ltl, by rw [List.length_set]; exact h.big⟩
  · rw [List.length_set]; exact h.obj.far (p := ⟨t, i * 4 + j, none⟩) (by simp only [ne_eq]; omega) _
  · rw [List.length_set]; exact Sl.setCell RV.len hj hx hx' h.arr
  · intro v hv
    have hb : ∀ v ∈ rs, Sl 18 Dp.l 92 (w.setCell ⟨t, i * 4 + j, none⟩ u) B v.sv v.S := fun v hv => (h.vers v hv).far (p := ⟨t, i * 4 + j, none⟩) ((h.vers v hv).ne hc (by decide)) _
    rcases List.mem_or_eq_of_mem_set hv with hv | rfl
    · exact hb v hv
    · rw [hs.1, hs.2]; exact hb x (List.mem_of_getElem? hx)
  · exact h.ml.far (p := ⟨t, i * 4 + j, none⟩) (h.ml.ne hc (by decide)) _
/-- The object turned, by a cell. -/
theorem Rp.setO (h : Rp w B p t c rs now last mv M) {j now' last' : Nat} {mv' u : Value} {M' : List Mb} (hj : (rpc c (.slice (some ⟨t, 0, none⟩) rs.length rs.length) now last mv).setIfInBounds j u = rpc c (.slice (some ⟨t, 0, none⟩) rs.length rs.length) now' last' mv') (hm : Sl 19 Mb.l 95 w B mv' M') (h1 : now' < rs.length) (h2 : last' < rs.length) : Rp (w.setCell ⟨p, j, none⟩ u) B p t c rs now' last' mv' M' := by
  have hne := h.pt
  refine ⟨?_, ?_, h.bp, ?_, ?_, h1, h2, h.big⟩
  · have := h.obj.set j u
    rw [hj] at this
    exact this
  · exact h.arr.far (p := ⟨p, j, none⟩) (by simp only [Value.ownBlock, ne_eq, Option.some.injEq]; omega) _
  · exact fun v hv => (h.vers v hv).far (p := ⟨p, j, none⟩) ((h.vers v hv).ne h.obj (by decide)) _
  · exact hm.far (p := ⟨p, j, none⟩) (hm.ne h.obj (by decide)) _
/-- A version made anew. -/
theorem Rp.setWhole (h : Rp w B p t c rs now last mv M) {i : Nat} (hi : i < rs.length) (x : RV) (hx : Sl 18 Dp.l 92 w B x.sv x.S) : Rp (w.setCells t (i * 4) (RV.l x)) B p t c (rs.set i x) now last mv M := by
  obtain ⟨cs, hc⟩ := h.tAt
  have hne := h.pt
  refine ⟨?_, ?_, h.bp, ?_, ?_, by rw [List.length_set]; exact h.lt, by rw [List.length_set]; exact h.ltl, by rw [List.length_set]; exact h.big⟩
  · rw [List.length_set]; exact h.obj.mod (Mod.setCells (M := fun g => g = t) rfl (RV.l x) (i * 4) w) hne
  · rw [List.length_set]; exact Sl.set RV.len hi h.arr
  · intro v hv
    rcases List.mem_or_eq_of_mem_set hv with hv | rfl
    · exact (h.vers v hv).setCellsNe ((h.vers v hv).ne hc (by decide)) _ _
    · exact hx.setCellsNe (hx.ne hc (by decide)) _ _
  · exact h.ml.setCellsNe (h.ml.ne hc (by decide)) _ _
theorem rvs_get {i : Nat} {x : RV} (h : rs[i]? = some x) : (rvs rs)[i]? = some x.v := by simp [rvs, h]
theorem rvs_len : (rvs rs).length = rs.length := by simp [rvs]
set_option maxHeartbeats 2000000 in
theorem rlive_any (h : Rp w B p t c rs now last mv M) (v : Int) : Calls Try.prog 105 #[.pointer (some ⟨p, 0, none⟩), .int .i64 v] w fun e w' => e = .returned (.bool (liveB (rvs rs) now v)) ∧ w' = w := by
  obtain ⟨c48, c49, -, -, hl⟩ := h.cells
  have H := Lib.hid h
  obtain ⟨n, hn⟩ : ∃ n, n = rs.length := ⟨_, rfl⟩
  rw [← hn] at c48
  have HN := Lib.hid hn
  clear h hn
  by_cases h1 : v < 0
  · have R := Lib.hid (liveB_neg (vs := rvs rs) (now := now) h1)
    have d1 : decide (0 ≤ v) = false := by simpa using h1
    clear h1
    go_enter Try.func105, Try.ntmps105
    go_wp2_with fail
    go_ret
    exact ⟨by rw [R.out]; rfl, rfl⟩
  · have d1 : decide (0 ≤ v) = true := by simpa using h1
    by_cases h2 : v < (n : Int)
    · obtain ⟨i, rfl⟩ : ∃ i : Nat, v = i := ⟨v.toNat, by omega⟩
      have hin : i < n := by omega
      obtain ⟨x, hx⟩ : ∃ x, rs[i]? = some x := ⟨_, List.getElem?_eq_getElem (by have := HN.out; omega)⟩
      obtain ⟨c1, c2, c3, htl⟩ := H.out.at hx
      have R := Lib.hid (liveB_at (now := now) (rvs_get hx))
      clear h1 hx
      by_cases h3 : i = now
      · have R2 := Lib.hid (show liveB (rvs rs) now (i : Int) = true by rw [R.out, decide_eq_true h3]; rfl)
        have d3 : ((i : Int) == (now : Int)) = true := by rw [beq_iff_eq, h3]
        clear h3
        go_enter Try.func105, Try.ntmps105
        go_wp2_with fail
        go_ret
        exact ⟨by rw [R2.out]; rfl, rfl⟩
      · have d3 : ((i : Int) == (now : Int)) = false := by simp; omega
        by_cases h4 : 0 < x.refs
        · have R2 := Lib.hid (show liveB (rvs rs) now (i : Int) = true by rw [R.out, decide_eq_true (show 0 < x.v.refs from h4)]; simp)
          have d4 : decide (0 < x.refs) = true := by simpa using h4
          clear h3 h4
          go_enter Try.func105, Try.ntmps105
          go_wp2_with fail
          go_ret
          exact ⟨by rw [R2.out]; rfl, rfl⟩
        · have R2 := Lib.hid (show liveB (rvs rs) now (i : Int) = x.res by rw [R.out, decide_eq_false h3, decide_eq_false (show ¬ 0 < x.v.refs from h4)]; rfl)
          have d4 : decide (0 < x.refs) = false := by simpa using h4
          clear h3 h4
          go_enter Try.func105, Try.ntmps105
          go_wp2_with fail
          go_ret
          exact ⟨by rw [R2.out]; rfl, rfl⟩
    · have R := Lib.hid (liveB_big (vs := rvs rs) (now := now) (v := v) (by have := HN.out; rw [rvs_len]; omega))
      have d2 : decide (v < (n : Int)) = false := by simpa using h2
      clear h1 h2
      go_enter Try.func105, Try.ntmps105
      go_wp2_with fail
      go_ret
      exact ⟨by rw [R.out]; rfl, rfl⟩
theorem rref_no (h : Rp w B p t c rs now last mv M) (v : Int) (hv : liveB (rvs rs) now v = false) : Calls Try.prog 57 #[.pointer (some ⟨p, 0, none⟩), .int .i64 v] w fun e w' => e = .returned (.int .i64 4) ∧ w' = w := by
  have H := Lib.hid h
  have HV := Lib.hid hv
  clear h hv
  go_enter Try.func57, Try.ntmps57
  go_wp2_with fail
  refine (rlive_any H.out v).mono ?_
  rintro e w1 ⟨rfl, rfl⟩
  rw [HV.out]
  go_wp2_with fail
  go_ret
  exact ⟨rfl, rfl⟩
theorem runref_no (h : Rp w B p t c rs now last mv M) (v : Int) (hv : liveB (rvs rs) now v = false) : Calls Try.prog 58 #[.pointer (some ⟨p, 0, none⟩), .int .i64 v] w fun e w' => e = .returned (.int .i64 4) ∧ w' = w := by
  have H := Lib.hid h
  have HV := Lib.hid hv
  clear h hv
  go_enter Try.func58, Try.ntmps58
  go_wp2_with fail
  refine (rlive_any H.out v).mono ?_
  rintro e w1 ⟨rfl, rfl⟩
  rw [HV.out]
  go_wp2_with fail
  go_ret
  exact ⟨rfl, rfl⟩
theorem rrefs_no (h : Rp w B p t c rs now last mv M) (v : Int) (hv : liveB (rvs rs) now v = false) : Calls Try.prog 63 #[.pointer (some ⟨p, 0, none⟩), .int .i64 v] w fun e w' => e = .returned (.int .i64 0) ∧ w' = w := by
  have H := Lib.hid h
  have HV := Lib.hid hv
  clear h hv
  go_enter Try.func63, Try.ntmps63
  go_wp2_with fail
  refine (rlive_any H.out v).mono ?_
  rintro e w1 ⟨rfl, rfl⟩
  rw [HV.out]
  go_wp2_with fail
  go_ret
  exact ⟨rfl, rfl⟩
theorem rslots_no (h : Rp w B p t c rs now last mv M) (v : Int) (hv : liveB (rvs rs) now v = false) : Calls Try.prog 60 #[.pointer (some ⟨p, 0, none⟩), .int .i64 v] w fun e w' => e = .returned (.slice none 0 0) ∧ w' = w := by
  have H := Lib.hid h
  have HV := Lib.hid hv
  clear h hv
  go_enter Try.func60, Try.ntmps60
  go_wp2_with fail
  refine (rlive_any H.out v).mono ?_
  rintro e w1 ⟨rfl, rfl⟩
  rw [HV.out]
  go_wp2_with fail
  go_ret
  exact ⟨rfl, rfl⟩
theorem rref_yes (h : Rp w B p t c rs now last mv M) (i : Nat) (x : RV) (hx : rs[i]? = some x) (hv : liveB (rvs rs) now i = true) (hr : x.refs < 1000000) : Calls Try.prog 57 #[.pointer (some ⟨p, 0, none⟩), .int .i64 (i : Nat)] w fun e w' =>
    e = .returned (.int .i64 0) ∧ Rp w' B p t c (rs.set i { x with refs := x.refs + 1 }) now last mv M ∧ Md p t w w' := by
  have H := Lib.hid h
  have HV := Lib.hid hv
  have HX := Lib.hid hx
  obtain ⟨c48, -, -, -, hl⟩ := h.cells
  obtain ⟨c1, c2, c3, htl⟩ := h.at hx
  have hin : i < rs.length := (List.getElem?_eq_some_iff.1 hx).1
  obtain ⟨n, hn⟩ : ∃ n, n = rs.length := ⟨_, rfl⟩
  rw [← hn] at c48 hin
  have hiz : (i : Int) < (n : Int) := by omega
  have f2 := (h.frz (i * 4 + 2)).2
  clear h hv hx hn
  go_enter Try.func57, Try.ntmps57
  go_wp2_with fail
  refine (rlive_any H.out i).mono ?_
  rintro e w1 ⟨rfl, rfl⟩
  rw [HV.out]
  go_wp2_with fail
  go_ret
  exact ⟨rfl, H.out.setV (j := 2) (x' := { x with refs := x.refs + 1 }) HX.out (by omega) (by simp) ⟨rfl, rfl⟩, Md.at _ _ _ _ _⟩
theorem rrefs_any (h : Rp w B p t c rs now last mv M) (i : Nat) (x : RV) (hx : rs[i]? = some x) (hv : liveB (rvs rs) now i = true) : Calls Try.prog 63 #[.pointer (some ⟨p, 0, none⟩), .int .i64 (i : Nat)] w fun e w' =>
    e = .returned (.int .i64 (x.refs : Nat)) ∧ w' = w := by
  have H := Lib.hid h
  have HV := Lib.hid hv
  have HX := Lib.hid hx
  obtain ⟨c48, -, -, -, hl⟩ := h.cells
  obtain ⟨c1, c2, c3, htl⟩ := h.at hx
  have hin : i < rs.length := (List.getElem?_eq_some_iff.1 hx).1
  obtain ⟨n, hn⟩ : ∃ n, n = rs.length := ⟨_, rfl⟩
  rw [← hn] at c48 hin
  have hiz : (i : Int) < (n : Int) := by omega
  have f2 := (h.frz (i * 4 + 2)).2
  clear h hv hx hn
  go_enter Try.func63, Try.ntmps63
  go_wp2_with fail
  refine (rlive_any H.out i).mono ?_
  rintro e w1 ⟨rfl, rfl⟩
  rw [HV.out]
  go_wp2_with fail
  go_ret
  exact ⟨rfl, rfl⟩
theorem rslots_any (h : Rp w B p t c rs now last mv M) (i : Nat) (x : RV) (hx : rs[i]? = some x) (hv : liveB (rvs rs) now i = true) : Calls Try.prog 60 #[.pointer (some ⟨p, 0, none⟩), .int .i64 (i : Nat)] w fun e w' =>
    e = .returned x.sv ∧ w' = w := by
  have H := Lib.hid h
  have HV := Lib.hid hv
  have HX := Lib.hid hx
  obtain ⟨c48, -, -, -, hl⟩ := h.cells
  obtain ⟨c1, c2, c3, htl⟩ := h.at hx
  have hin : i < rs.length := (List.getElem?_eq_some_iff.1 hx).1
  obtain ⟨n, hn⟩ : ∃ n, n = rs.length := ⟨_, rfl⟩
  rw [← hn] at c48 hin
  have hiz : (i : Int) < (n : Int) := by omega
  have f2 := (h.frz (i * 4 + 2)).2
  obtain ⟨a, q, hsv⟩ := (h.vers x (List.mem_of_getElem? hx)).form
  obtain ⟨m, hm⟩ : ∃ m, m = x.S.length := ⟨_, rfl⟩
  rw [← hm] at hsv
  rw [hsv] at c3 ⊢
  clear h hv hx hn hsv hm
  go_enter Try.func60, Try.ntmps60
  go_wp2_with fail
  refine (rlive_any H.out i).mono ?_
  rintro e w1 ⟨rfl, rfl⟩
  rw [HV.out]
  go_wp2_with fail
  go_ret
  exact ⟨rfl, rfl⟩
theorem runref_any (h : Rp w B p t c rs now last mv M) (i : Nat) (x : RV) (hx : rs[i]? = some x) (hv : liveB (rvs rs) now i = true) (hr : x.refs < 1000000) : Calls Try.prog 58 #[.pointer (some ⟨p, 0, none⟩), .int .i64 (i : Nat)] w fun e w' =>
    (x.refs = 0 ∧ e = .returned (.int .i64 5) ∧ w' = w) ∨ (0 < x.refs ∧ e = .returned (.int .i64 0) ∧ Rp w' B p t c (rs.set i { x with refs := x.refs - 1 }) now last mv M ∧ Md p t w w') := by
  have H := Lib.hid h
  have HV := Lib.hid hv
  have HX := Lib.hid hx
  obtain ⟨c48, -, -, -, hl⟩ := h.cells
  obtain ⟨c1, c2, c3, htl⟩ := h.at hx
  have hin : i < rs.length := (List.getElem?_eq_some_iff.1 hx).1
  obtain ⟨n, hn⟩ : ∃ n, n = rs.length := ⟨_, rfl⟩
  rw [← hn] at c48 hin
  have hiz : (i : Int) < (n : Int) := by omega
  have f2 := (h.frz (i * 4 + 2)).2
  obtain ⟨r, hrx⟩ : ∃ r, r = x.refs := ⟨_, rfl⟩
  rw [← hrx] at hr c2 ⊢
  have HRX := Lib.hid hrx
  clear h hv hx hn hrx
  go_enter Try.func58, Try.ntmps58
  go_wp2_with fail
  refine (rlive_any H.out i).mono ?_
  rintro e w1 ⟨rfl, rfl⟩
  rw [HV.out]
  by_cases h0 : r = 0
  · have H0 := Lib.hid h0
    have hz : ((r : Int) == 0) = true := by rw [beq_iff_eq]; omega
    clear h0
    go_wp2_with fail
    go_ret
    exact .inl ⟨H0.out, rfl, rfl⟩
  · have H0 := Lib.hid (show 0 < r by omega)
    have hz : ((r : Int) == 0) = false := by simp; omega
    have hz2 : (r == 0) = false := by simp; omega
    have HQ := Lib.hid (show (r : Int) - 1 = ((r - 1 : Nat) : Int) by omega)
    clear h0
    go_wp2_with fail
    go_ret
    refine .inr ⟨H0.out, rfl, ?_, Md.at _ _ _ _ _⟩
    exact H.out.setV (j := 2) (x' := { x with refs := r - 1 }) HX.out (by omega) (by simp [HQ.out]) ⟨rfl, rfl⟩
/-- Serve: any number. -/
theorem rserve_bad (h : Rp w B p t c rs now last mv M) (v : Int) (hv : v < 0 ∨ (rs.length : Int) ≤ v) : Calls Try.prog 56 #[.pointer (some ⟨p, 0, none⟩), .int .i64 v] w fun e w' => e = .returned (.int .i64 4) ∧ w' = w := by
  obtain ⟨c48, -, -, -, hl⟩ := h.cells
  obtain ⟨n, hn⟩ : ∃ n, n = rs.length := ⟨_, rfl⟩
  rw [← hn] at c48 hv
  clear h hn
  by_cases h1 : v < 0
  · have d1 : decide (v < 0) = true := by simpa using h1
    clear hv
    go_enter Try.func56, Try.ntmps56
    go_wp2_with fail
    go_ret
    exact ⟨rfl, rfl⟩
  · have d1 : decide (v < 0) = false := by simpa using h1
    have d2 : decide ((n : Int) ≤ v) = true := by simp; omega
    clear hv h1
    go_enter Try.func56, Try.ntmps56
    go_wp2_with fail
    go_ret
    exact ⟨rfl, rfl⟩
theorem rserve_any (h : Rp w B p t c rs now last mv M) (i : Nat) (x : RV) (hx : rs[i]? = some x) : Calls Try.prog 56 #[.pointer (some ⟨p, 0, none⟩), .int .i64 (i : Nat)] w fun e w' =>
    (x.res = false ∧ e = .returned (.int .i64 4) ∧ w' = w) ∨ (x.res = true ∧ e = .returned (.int .i64 0) ∧ Rp w' B p t c (rs.set i { x with res := false }) i last mv M ∧ Md p t w w') := by
  have H := Lib.hid h
  have HX := Lib.hid hx
  obtain ⟨c48, -, -, -, hl⟩ := h.cells
  obtain ⟨c1, c2, c3, htl⟩ := h.at hx
  have hin : i < rs.length := (List.getElem?_eq_some_iff.1 hx).1
  have HIN := Lib.hid hin
  obtain ⟨n, hn⟩ : ∃ n, n = rs.length := ⟨_, rfl⟩
  rw [← hn] at c48 hin
  have hiz : (i : Int) < (n : Int) := by omega
  have f1 := (h.frz (i * 4 + 1)).2
  obtain ⟨r, hrx⟩ : ∃ r, r = x.res := ⟨_, rfl⟩
  rw [← hrx] at c1 ⊢
  have d1 : decide ((i : Int) < 0) = false := by simp
  have d2 : decide ((n : Int) ≤ (i : Int)) = false := by simp; omega
  have d3 : decide (n ≤ i) = false := by simp; omega
  have hpt := h.pt
  clear h hx hn hrx
  go_enter Try.func56, Try.ntmps56
  cases r with
  | false =>
    go_wp2_with fail
    go_ret
    exact ⟨rfl, rfl⟩
  | true =>
    go_upto_region 4 with fail
    have h1 := H.out.setV (j := 1) (x' := { x with res := false }) (u := .bool false) HX.out (by omega) (by simp) ⟨rfl, rfl⟩
    have HM := Lib.hid (Md.at p t (i * 4 + 1) (.bool false) w)
    have H1 := Lib.hid h1
    clear c48 c1 c2 c3 f1 hl htl
    generalize w.setCell ⟨t, i * 4 + 1, none⟩ (.bool false) = W2 at *
    have f2 := (h1.frz 49).1
    obtain ⟨-, c49, -, -, hl⟩ := h1.cells
    clear h1
    go_wp2_with fail
    go_ret
    exact ⟨rfl, H1.out.setO (rpc_now _ _ _ _ _ _) H1.out.ml (by rw [List.length_set]; exact HIN.out) H1.out.ltl, HM.out.trans (Md.ap _ _ _ _ _)⟩
end Go.Proofs.Ythfgccibiajneaa
