/-
  PoolsReuse: who refers to what, in plain words; what an append leaves.
-/
import Derived.Test.YthfgccibiajneaaPoServeLQ
import Derived.Test.YthfgccibiajneaaQuQ
namespace Go.Proofs.Ythfgccibiajneaa
open Go.RowKit Go.Shelf
/-- One that refers: to which version, the slots that it saw (a value, and what that shows). -/
abbrev Hd := Nat × Value × List Dp
def cnt (H : List Hd) (j : Nat) : Nat := H.countP fun h => decide (h.1 = j)
theorem cnt_snoc (H : List Hd) (h : Hd) (j : Nat) : cnt (H ++ [h]) j = cnt H j + if h.1 = j then 1 else 0 := by
  unfold cnt
  rw [List.countP_append, List.countP_cons, List.countP_nil]
  by_cases hj : h.1 = j <;> simp [hj]
theorem cnt_cons (H : List Hd) (h : Hd) (j : Nat) : cnt (h :: H) j = cnt H j + if h.1 = j then 1 else 0 := by
  unfold cnt
  rw [List.countP_cons]
  by_cases hj : h.1 = j <;> simp [hj]
theorem cnt_pos {H : List Hd} {h : Hd} (hh : h ∈ H) : 0 < cnt H h.1 := List.countP_pos_iff.2 ⟨h, hh, by simp⟩
theorem cnt_le (H : List Hd) (j : Nat) : cnt H j ≤ H.length := List.countP_le_length
/-- The versions and who refers to them. -/
structure RF (N : Nat) (vs : List V) (H : List Hd) : Prop where
  len : vs.length = N
  ver : ∀ j x, vs[j]? = some x → x.refs = cnt H j ∧ x.res = false ∧ x.S.length ≤ 64
  hd : ∀ h ∈ H, h.2.2.length ≤ 64 ∧ ∃ x, vs[h.1]? = some x ∧ x.S = h.2.2
variable {N : Nat} {vs : List V} {H : List Hd} {now : Nat}
theorem RF.get (r : RF N vs H) {j : Nat} (hj : j < N) : ∃ x, vs[j]? = some x ∧ x.refs = cnt H j ∧ x.res = false ∧ x.S.length ≤ 64 := by
  obtain ⟨x, hx⟩ : ∃ x, vs[j]? = some x := ⟨_, List.getElem?_eq_getElem (by rw [r.len]; exact hj)⟩
  exact ⟨x, hx, r.ver j x hx⟩
theorem RF.ref (r : RF N vs H) {x : V} (hx : vs[now]? = some x) (v : Value) : RF N (vs.set now { x with refs := x.refs + 1 }) (H ++ [(now, v, x.S)]) where
  len := by rw [List.length_set]; exact r.len
  ver := fun j y hy => by
    rw [cnt_snoc]
    rw [List.getElem?_set] at hy
    by_cases hj : now = j
    · subst hj
      rw [if_pos rfl] at hy
      split at hy
      · simp only [Option.some.injEq] at hy
        subst hy
        obtain ⟨h1, h2, h3⟩ := r.ver now x hx
        exact ⟨by simp [h1], h2, h3⟩
      · cases hy
    · rw [if_neg hj] at hy
      obtain ⟨h1, h2, h3⟩ := r.ver j y hy
      exact ⟨by simp [h1, hj], h2, h3⟩
  hd := fun h hh => by
    rcases List.mem_append.1 hh with hh | hh
    · obtain ⟨h1, y, h2, h3⟩ := r.hd h hh
      refine ⟨h1, ?_⟩
      by_cases hj : now = h.1
      · rw [← hj] at h2
        rw [hx] at h2
        obtain rfl := Option.some.inj h2
        exact ⟨{ x with refs := x.refs + 1 }, by rw [← hj, List.getElem?_set_self (List.getElem?_eq_some_iff.1 hx).1], h3⟩
      · exact ⟨y, by rw [List.getElem?_set_ne hj]; exact h2, h3⟩
    · rw [List.mem_singleton.1 hh]
      exact ⟨(r.ver now x hx).2.2, { x with refs := x.refs + 1 }, by rw [List.getElem?_set_self (List.getElem?_eq_some_iff.1 hx).1], rfl⟩
theorem RF.unref {h0 : Hd} {r0 : List Hd} (r : RF N vs (h0 :: r0)) {x : V} (hx : vs[h0.1]? = some x) : 0 < x.refs ∧ RF N (vs.set h0.1 { x with refs := x.refs - 1 }) r0 := by
  have hc := r.ver _ x hx
  rw [cnt_cons, if_pos rfl] at hc
  refine ⟨by omega, by rw [List.length_set]; exact r.len, fun j y hy => ?_, fun h hh => ?_⟩
  · rw [List.getElem?_set] at hy
    by_cases hj : h0.1 = j
    · subst hj
      rw [if_pos rfl] at hy
      split at hy
      · simp only [Option.some.injEq] at hy
        subst hy
        exact ⟨by simp only; omega, hc.2.1, hc.2.2⟩
      · cases hy
    · rw [if_neg hj] at hy
      have := r.ver j y hy
      rw [cnt_cons, if_neg hj] at this
      exact this
  · obtain ⟨h1, y, h2, h3⟩ := r.hd h (by simp [hh])
    refine ⟨h1, ?_⟩
    by_cases hj : h0.1 = h.1
    · rw [← hj, hx] at h2
      obtain rfl := Option.some.inj h2
      exact ⟨{ x with refs := x.refs - 1 }, by rw [← hj, List.getElem?_set_self (List.getElem?_eq_some_iff.1 hx).1], h3⟩
    · exact ⟨y, by rw [List.getElem?_set_ne hj]; exact h2, h3⟩
theorem RF.live (r : RF N vs H) {h : Hd} (hh : h ∈ H) : liveB vs now (h.1 : Int) = true := by
  obtain ⟨_, x, hx, _⟩ := r.hd h hh
  rw [liveB_at hx, decide_eq_true (show 0 < x.refs by rw [(r.ver _ x hx).1]; exact cnt_pos hh)]
  simp
theorem RF.dead (r : RF N vs H) {v : Nat} (hv : v < N) (hl : liveB vs now (v : Int) = false) : v ≠ now ∧ cnt H v = 0 ∧ ∀ h ∈ H, h.1 ≠ v := by
  obtain ⟨x, hx, h1, _⟩ := r.get hv
  rw [liveB_at hx] at hl
  simp only [Bool.or_eq_false_iff, decide_eq_false_iff_not] at hl
  refine ⟨hl.1.1, by omega, fun h hh e => ?_⟩
  have := cnt_pos hh
  rw [e] at this
  omega
theorem RF.anew (r : RF N vs H) {v : Nat} (hv : v < N) (hl : liveB vs now (v : Int) = false) {x : V} (h1 : x.refs = 0) (h2 : x.res = false) (h3 : x.S.length ≤ 64) : RF N (vs.set v x) H := by
  obtain ⟨_, hc, hn⟩ := r.dead hv hl
  refine ⟨by rw [List.length_set]; exact r.len, fun j y hy => ?_, fun h hh => ?_⟩
  · rw [List.getElem?_set] at hy
    by_cases hj : v = j
    · subst hj
      rw [if_pos rfl] at hy
      split at hy
      · simp only [Option.some.injEq] at hy
        subst hy
        exact ⟨by rw [hc]; exact h1, h2, h3⟩
      · cases hy
    · rw [if_neg hj] at hy
      exact r.ver j y hy
  · obtain ⟨g1, y, g2, g3⟩ := r.hd h hh
    exact ⟨g1, y, by rw [List.getElem?_set_ne (fun e => hn h hh e.symm)]; exact g2, g3⟩
theorem liveTo_all {k : Nat} (h : ∀ i : Nat, i < k → liveB vs now (i : Int) = true) : liveTo vs now k = List.range k := by
  unfold liveTo
  rw [List.filter_eq_self]
  exact fun i hi => h i (List.mem_range.1 hi)
variable {w w' : World} {B p t : Nat} {c : Cf} {lv sv : Value} {L : List Mb} {S : List Dp}
/-- Where only blocks of other elements turn. -/
theorem Po.other {M : Nat → Prop} (h : Po w B p t c vs now lv L sv S) (hm : Mod M w w') (hM : ∀ g, M g → ∃ e cs, At w g e cs ∧ e ≠ 154 ∧ e ≠ 156 ∧ e ≠ 92 ∧ e ≠ 95) : Po w' B p t c vs now lv L sv S where
  obj := h.obj.mod hm fun hg => by obtain ⟨e, cs, h1, h2, _⟩ := hM p hg; exact h2 (h1.one_type h.obj)
  arr := h.arr.mod hm fun g hv hg => by obtain ⟨e, cs, h1, _, h2, _⟩ := hM g hg; exact h.arr.ne h1 (fun e => h2 e.symm) hv
  bp := h.bp
  vers := fun v hv => (h.vers v hv).mod hm fun g hb hg => by obtain ⟨e, cs, h1, _, _, h2, _⟩ := hM g hg; exact (h.vers v hv).ne h1 (fun e => h2 e.symm) hb
  last := h.last.mod hm fun g hb hg => by obtain ⟨e, cs, h1, _, _, _, h2⟩ := hM g hg; exact h.last.ne h1 (fun e => h2 e.symm) hb
  sl := h.sl.mod hm fun g hb hg => by obtain ⟨e, cs, h1, _, _, h2, _⟩ := hM g hg; exact h.sl.ne h1 (fun e => h2 e.symm) hb
  lt := h.lt
  big := h.big
theorem Qu.block {e : TypeId} {v : Value} {xs : List Value} {g : Nat} (h : Qu e w B v xs) (hg : v.ownBlock = some g) : ∃ cs, At w g e cs := by
  rcases h with ⟨rfl, _⟩ | ⟨g', o, c, cur, rfl, h2, h3, _⟩
  · cases hg
  · simp only [Value.ownBlock, Option.some.injEq] at hg
    subst hg
    exact ⟨_, h3⟩
theorem Po.qu {B2 : Nat} {e : TypeId} {v : Value} {xs : List Value} (h : Po w B p t c vs now lv L sv S) (q : Qu e w B2 v xs) (he : e ≠ 154 ∧ e ≠ 156 ∧ e ≠ 92 ∧ e ≠ 95) (hm : Mod (fun g => v.ownBlock = some g) w w') : Po w' B p t c vs now lv L sv S :=
  h.other hm fun g hg => by
    obtain ⟨cs, hc⟩ := q.block hg
    exact ⟨e, cs, hc, he⟩
theorem Sl.qu {α : Type} {k : Nat} {enc : α → List Value} {e' e : TypeId} {B1 B2 : Nat} {v u : Value} {xs : List Value} {D : List α} (h : Sl k enc e' w B1 u D) (q : Qu e w B2 v xs) (he : e' ≠ e) (hm : Mod (fun g => v.ownBlock = some g) w w') : Sl k enc e' w' B1 u D :=
  h.mod hm fun g hb hg => by
    obtain ⟨cs, hc⟩ := q.block hg
    exact h.ne hc he hb
theorem Qu.md {B2 : Nat} {e : TypeId} {v : Value} {xs : List Value} (q : Qu e w B2 v xs) (h : Po w B p t c vs now lv L sv S) (he : e ≠ 154 ∧ e ≠ 156) (hm : Md p t w w') : Qu e w' B2 v xs := by
  obtain ⟨cs, hc⟩ := h.tAt
  refine q.mod hm fun g hv hg => ?_
  rcases hg with rfl | rfl
  · exact q.ne h.obj he.1 hv
  · exact q.ne hc he.2 hv
theorem Qu.bel {B2 : Nat} {e : TypeId} {v : Value} {xs : List Value} {w0 : World} (q : Qu e w B2 v xs) (hB : w0.heap.size ≤ B2) (hb : Below w0.heap.size w0 w) (hm : Mod (fun g => v.ownBlock = some g) w w') : Below w0.heap.size w0 w' :=
  hb.trans (mod_below hm hb.size fun _ hg => Nat.le_trans hB (q.ge hg))
/-- What those who refer have seen is there still. -/
def HS (w : World) (B : Nat) (H : List Hd) : Prop := ∀ h ∈ H, Sl 18 Dp.l 92 w B h.2.1 h.2.2
theorem HS.below (h : HS w B H) (hb : Below w.heap.size w w') : HS w' B H := fun x hx => (h x hx).below hb
theorem HS.md (h : HS w B H) (hp : Po w B p t c vs now lv L sv S) (hm : Md p t w w') : HS w' B H := fun x hx => Sl.md hp hm (h x hx)
theorem HS.qu {e : TypeId} {v : Value} {xs : List Value} (h : HS w B H) (q : Qu e w B v xs) (he : 92 ≠ e) (hm : Mod (fun g => v.ownBlock = some g) w w') : HS w' B H := fun x hx => (h x hx).qu q he hm
theorem HS.snoc {h0 : Hd} (h : HS w B H) (h1 : Sl 18 Dp.l 92 w B h0.2.1 h0.2.2) : HS w B (H ++ [h0]) := fun x hx => by
  rcases List.mem_append.1 hx with hx | hx
  · exact h x hx
  · rw [List.mem_singleton.1 hx]; exact h1
def vH (H : List Hd) : List Value := H.map fun h => .int .i64 (h.1 : Nat)
def vW (H : List Hd) : List Value := H.map fun h => h.2.1
theorem vH_len (H : List Hd) : (vH H).length = H.length := by simp [vH]
theorem vW_len (H : List Hd) : (vW H).length = H.length := by simp [vW]
theorem vH_get {H : List Hd} {k : Nat} {h : Hd} (hk : H[k]? = some h) : (vH H)[k]? = some (.int .i64 (h.1 : Nat)) := by simp [vH, hk]
theorem vW_get {H : List Hd} {k : Nat} {h : Hd} (hk : H[k]? = some h) : (vW H)[k]? = some h.2.1 := by simp [vW, hk]
theorem infoSD : (Try.prog.info? 65).map (fun i => (i.zero, i.size, i.bytes)) = some (some (.slice none 0 0), 1, 24) := by kernel_rfl
theorem slSD : Try.prog.underlying 62 = some (.slice 65) := by kernel_rfl
end Go.Proofs.Ythfgccibiajneaa
