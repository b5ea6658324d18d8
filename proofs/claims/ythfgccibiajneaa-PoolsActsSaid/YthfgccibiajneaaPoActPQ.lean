/-
  PoolsActs: its arguments read; the pool and the document's held against each other.
-/
import Derived.Test.YthfgccibiajneaaPoBadQ
import Derived.Test.YthfgccibiajneaaPoRfResQ
import Derived.Test.YthfgccibiajneaaPoReusePQ
import Derived.Test.YthfgccibiajneaaFlatQ
namespace Go.Proofs.Ythfgccibiajneaa
open Go.RowKit Go.Shelf
def iv (v : Value) : Int := match v with | .int _ n => n | _ => 0
def bv (v : Value) : Bool := match v with | .bool b => b | _ => false
def mbKs : List Pl := .bool :: (List.replicate 16 (.int .u8) ++ [.int .u16, .int .i64])
def decMb (g : Nat → Value) : Mb := ⟨⟨⟨bv (g 0), (List.range 16).map fun j => (iv (g (1 + j))).toNat % 256, by simp, by intro x hx; obtain ⟨j, _, rfl⟩ := List.mem_map.1 hx; omega⟩, (iv (g 17)).toNat % 65536, by omega⟩, iv (g 18)⟩
theorem mbKs_u8 (j : Nat) (h : j < 16) : mbKs[1 + j]? = some (.int .u8) := by
  have : j = 0 ∨ j = 1 ∨ j = 2 ∨ j = 3 ∨ j = 4 ∨ j = 5 ∨ j = 6 ∨ j = 7 ∨ j = 8 ∨ j = 9 ∨ j = 10 ∨ j = 11 ∨ j = 12 ∨ j = 13 ∨ j = 14 ∨ j = 15 := by omega
  rcases this with rfl | rfl | rfl | rfl | rfl | rfl | rfl | rfl | rfl | rfl | rfl | rfl | rfl | rfl | rfl | rfl <;> rfl
theorem decMb_ok (g : Nat → Value) (hg : ∀ j k, mbKs[j]? = some k → okPl k (g j)) (j : Nat) (hj : j < mbKs.length) : (Mb.l (decMb g))[j]? = some (g j) := by
  have hj : j < 19 := hj
  rcases Nat.lt_or_ge j 17 with h17 | h17
  · have e1 := ml_dip (decMb g) j (by omega)
    rw [dl_adr _ _ h17, ac_get, ml_get] at e1
    rw [e1]
    cases j with
    | zero =>
      obtain ⟨b, hb⟩ := hg 0 .bool rfl
      rw [hb]
      simp [decMb, Adr.l, bv, hb]
    | succ j =>
      obtain ⟨n, hn, hw⟩ := hg (1 + j) (.int .u8) (mbKs_u8 j (by omega))
      have hr : 0 ≤ n ∧ n < 256 := by
        simp [Lit.wf, IntKind.min, IntKind.max, IntKind.signed, IntKind.bits] at hw
        omega
      rw [show j + 1 = 1 + j by omega, hn]
      have : (Adr.l (decMb g).d.a)[1 + j]? = (u8s ((List.range 16).map fun j => (iv (g (1 + j))).toNat % 256))[j]? := by
        rw [show 1 + j = j + 1 by omega]; rfl
      rw [this]
      unfold u8s
      rw [List.getElem?_map, List.getElem?_map, List.getElem?_range (by omega)]
      simp only [Option.map_some, hn, iv]
      congr 2
      omega
  · have : j = 17 ∨ j = 18 := by omega
    rcases this with rfl | rfl
    · obtain ⟨n, hn, hw⟩ := hg 17 (.int .u16) rfl
      have hr : 0 ≤ n ∧ n < 65536 := by
        simp [Lit.wf, IntKind.min, IntKind.max, IntKind.signed, IntKind.bits] at hw
        omega
      have e1 := ml_dip (decMb g) 17 (by omega)
      rw [ml_get, dc_17?] at e1
      rw [e1, hn]
      simp only [decMb, hn, iv]
      congr 2
      omega
    · obtain ⟨n, hn, hw⟩ := hg 18 (.int .i64) rfl
      have e1 := mc_18? (decMb g)
      rw [ml_get] at e1
      rw [e1, hn]
      simp [decMb, hn, iv]
theorem flat_mb {w : World} {a : Option Addr} {len cap : Nat} (h : IsFlat mbKs w a len cap) : ∃ M : List Mb, Rd 19 Mb.l w a len M ∧ ∀ x ∈ M, wOk x := by
  obtain ⟨M, hr, hm⟩ := h.rd (enc := Mb.l) (k := 19) decMb rfl (fun g hg j hj => decMb_ok g hg j hj)
  refine ⟨M, hr, fun x hx => ?_⟩
  obtain ⟨g, rfl, hg⟩ := hm x hx
  obtain ⟨n, hn, hw⟩ := hg 18 (.int .i64) rfl
  simp [Lit.wf, IntKind.min, IntKind.max, IntKind.signed, IntKind.bits] at hw
  unfold wOk
  simp only [decMb, hn, iv]
  omega
abbrev A3 := Int × Int × Int
abbrev ea (x : A3) : List Value := [.int .i64 x.1, .int .i64 x.2.1, .int .i64 x.2.2]
theorem ea_len (x : A3) : (ea x).length = 3 := rfl
def a3Ks : List Pl := [.int .i64, .int .i64, .int .i64]
def i64ok (n : Int) : Prop := -9223372036854775808 ≤ n ∧ n ≤ 9223372036854775807
theorem flat_a3 {w : World} {a : Option Addr} {len cap : Nat} (h : IsFlat a3Ks w a len cap) : ∃ A : List A3, Rd 3 ea w a len A ∧ ∀ x ∈ A, i64ok x.1 ∧ i64ok x.2.1 ∧ i64ok x.2.2 := by
  obtain ⟨A, hr, hm⟩ := h.rd (enc := ea) (k := 3) (fun g => (iv (g 0), iv (g 1), iv (g 2))) rfl (fun g hg j hj => by
    obtain ⟨n0, h0, _⟩ := hg 0 (.int .i64) rfl
    obtain ⟨n1, h1, _⟩ := hg 1 (.int .i64) rfl
    obtain ⟨n2, h2, _⟩ := hg 2 (.int .i64) rfl
    have : j = 0 ∨ j = 1 ∨ j = 2 := by simp [a3Ks] at hj; omega
    rcases this with rfl | rfl | rfl <;> simp [ea, h0, h1, h2, iv])
  refine ⟨A, hr, fun x hx => ?_⟩
  obtain ⟨g, rfl, hg⟩ := hm x hx
  have key : ∀ j, j < 3 → i64ok (iv (g j)) := fun j hj => by
    obtain ⟨n, hn, hw⟩ := hg j (.int .i64) (by have : j = 0 ∨ j = 1 ∨ j = 2 := by omega
                                               rcases this with rfl | rfl | rfl <;> rfl)
    simp [Lit.wf, IntKind.min, IntKind.max, IntKind.signed, IntKind.bits] at hw
    unfold i64ok
    rw [hn]
    simp only [iv]
    omega
  exact ⟨key 0 (by omega), key 1 (by omega), key 2 (by omega)⟩
/-- The pool's versions and the document's. -/
structure RA (N n k : Nat) (vs : List V) (rs : List RV) : Prop where
  len : vs.length = N
  lenr : rs.length = N
  eq : ∀ (j : Nat) (x : V) (r : RV), vs[j]? = some x → rs[j]? = some r → r.S = x.S ∧ r.refs = x.refs ∧ r.res = x.res
  sl : ∀ (j : Nat) (x : V), vs[j]? = some x → (x.S.length = 0 ∨ x.S.length = n) ∧ x.refs ≤ k
variable {N n k : Nat} {vs : List V} {rs : List RV} {now : Nat}
theorem RA.live (h : RA N n k vs rs) (v : Int) : liveB (rvs rs) now v = liveB vs now v := by
  unfold liveB
  by_cases h0 : 0 ≤ v
  · rw [if_pos h0, if_pos h0]
    by_cases hv : v.toNat < N
    · obtain ⟨x, hx⟩ : ∃ x, vs[v.toNat]? = some x := ⟨_, List.getElem?_eq_getElem (by rw [h.len]; exact hv)⟩
      obtain ⟨r, hr⟩ : ∃ x, rs[v.toNat]? = some x := ⟨_, List.getElem?_eq_getElem (by rw [h.lenr]; exact hv)⟩
      obtain ⟨_, h2, h3⟩ := h.eq _ x r hx hr
      rw [hx, rvs_get hr]
      simp only [RV.v, h2, h3]
    · rw [List.getElem?_eq_none (by rw [rvs_len, h.lenr]; omega), List.getElem?_eq_none (by rw [h.len]; omega)]
  · rw [if_neg h0, if_neg h0]
theorem RA.liveTo (h : RA N n k vs rs) (j : Nat) : liveTo (rvs rs) now j = liveTo vs now j := by
  unfold Proofs.Ythfgccibiajneaa.liveTo
  exact List.filter_congr fun i _ => h.live _
theorem RA.get (h : RA N n k vs rs) {j : Nat} (hj : j < N) : ∃ x r, vs[j]? = some x ∧ rs[j]? = some r ∧ r.S = x.S ∧ r.refs = x.refs ∧ r.res = x.res ∧ (x.S.length = 0 ∨ x.S.length = n) ∧ x.refs ≤ k := by
  obtain ⟨x, hx⟩ : ∃ x, vs[j]? = some x := ⟨_, List.getElem?_eq_getElem (by rw [h.len]; exact hj)⟩
  obtain ⟨r, hr⟩ : ∃ x, rs[j]? = some x := ⟨_, List.getElem?_eq_getElem (by rw [h.lenr]; exact hj)⟩
  obtain ⟨h1, h2, h3⟩ := h.eq j x r hx hr
  exact ⟨x, r, hx, hr, h1, h2, h3, h.sl j x hx⟩
theorem RA.mono {k' : Nat} (h : RA N n k vs rs) (hk : k ≤ k') : RA N n k' vs rs := ⟨h.len, h.lenr, h.eq, fun j x hx => ⟨(h.sl j x hx).1, Nat.le_trans (h.sl j x hx).2 hk⟩⟩
theorem RA.set {k' : Nat} (h : RA N n k vs rs) (hk : k ≤ k') {i : Nat} {x : V} {r : RV} (he : r.S = x.S ∧ r.refs = x.refs ∧ r.res = x.res) (hs : (x.S.length = 0 ∨ x.S.length = n) ∧ x.refs ≤ k') : RA N n k' (vs.set i x) (rs.set i r) := by
  refine ⟨by rw [List.length_set]; exact h.len, by rw [List.length_set]; exact h.lenr, fun j y q hy hq => ?_, fun j y hy => ?_⟩
  · rw [List.getElem?_set] at hy hq
    by_cases hij : i = j
    · rw [if_pos hij] at hy hq
      split at hy
      · split at hq
        · simp only [Option.some.injEq] at hy hq
          rw [← hy, ← hq]; exact he
        · cases hq
      · cases hy
    · rw [if_neg hij] at hy hq
      exact h.eq j y q hy hq
  · rw [List.getElem?_set] at hy
    by_cases hij : i = j
    · rw [if_pos hij] at hy
      split at hy
      · simp only [Option.some.injEq] at hy
        rw [← hy]; exact hs
      · cases hy
    · rw [if_neg hij] at hy
      have := h.sl j y hy
      exact ⟨this.1, Nat.le_trans this.2 hk⟩
variable {w w' : World} {B p t B' p' t' now' : Nat} {c : Cf} {lv sv mv : Value} {L M : List Mb} {S : List Dp} {last : Nat}
/-- What turns the pool turns nothing of the document's. -/
theorem Rp.md (h : Rp w B' p' t' c rs now last mv M) (hp : Po w B p t c vs now' lv L sv S) (hm : Md p t w w') : Rp w' B' p' t' c rs now last mv M := by
  obtain ⟨cs, hc⟩ := hp.tAt
  have key : ∀ g e ds, At w g e ds → e ≠ 154 → e ≠ 156 → ¬ (g = p ∨ g = t) := fun g e ds ha h1 h2 hg => by
    rcases hg with rfl | rfl
    · exact h1 (ha.one_type hp.obj)
    · exact h2 (ha.one_type hc)
  obtain ⟨cr, hcr⟩ := h.tAt
  refine ⟨h.obj.mod hm (key _ _ _ h.obj (by decide) (by decide)), h.arr.mod hm (fun g hg => ?_), h.bp, fun v hv => ?_, ?_, h.lt, h.ltl, h.big⟩
  · simp only [Value.ownBlock, Option.some.injEq] at hg
    subst hg
    exact key _ _ _ hcr (by decide) (by decide)
  · refine (h.vers v hv).mod hm fun g hg hgm => ?_
    rcases hgm with rfl | rfl
    · exact (h.vers v hv).ne hp.obj (by decide) hg
    · exact (h.vers v hv).ne hc (by decide) hg
  · refine h.ml.mod hm fun g hg hgm => ?_
    rcases hgm with rfl | rfl
    · exact h.ml.ne hp.obj (by decide) hg
    · exact h.ml.ne hc (by decide) hg
/-- .. and the other way. -/
theorem Po.md (h : Po w B p t c vs now lv L sv S) (hp : Rp w B' p' t' c rs now' last mv M) (hm : Md p' t' w w') : Po w' B p t c vs now lv L sv S := by
  obtain ⟨cs, hc⟩ := hp.tAt
  refine h.other hm fun g hg => ?_
  rcases hg with rfl | rfl
  · exact ⟨_, _, hp.obj, by decide, by decide, by decide, by decide⟩
  · exact ⟨_, _, hc, by decide, by decide, by decide, by decide⟩
theorem first_ex {f : Nat → Bool} : ∀ {K : Nat}, ¬ (∀ i, i < K → f i = true) → ∃ k, k < K ∧ f k = false ∧ ∀ i, i < k → f i = true
  | 0, h => absurd (fun i hi => by omega) h
  | K + 1, h => by
    by_cases h1 : ∀ i, i < K → f i = true
    · refine ⟨K, by omega, ?_, h1⟩
      cases hf : f K with
      | false => rfl
      | true =>
        exfalso
        apply h
        intro i hi
        rcases Nat.lt_or_ge i K with h2 | h2
        · exact h1 i h2
        · rw [show i = K by omega]; exact hf
    · obtain ⟨k, h2, h3, h4⟩ := first_ex h1
      exact ⟨k, by omega, h3, h4⟩
theorem rreserve_at (am : Option Addr) (nm cm B2 k : Nat) (M2 : List Mb) (xl : RV) (h : Rp w B p t c rs now last mv M) (hM : Sl 19 Mb.l 95 w B2 (.slice am nm cm) M2) (hok : mOk M2 = true) (hn : c.slots = n) (h1 : 1 ≤ n) (h2 : n ≤ 64) (hx : rs[last]? = some xl) (hS : xl.S.length = 0 ∨ xl.S.length = n)
    (hk : k < rs.length) (hk1 : ∀ i : Nat, i < k → liveB (rvs rs) now i = true) (hk2 : liveB (rvs rs) now k = false) :
    Calls Try.prog 55 #[.pointer (some ⟨p, 0, none⟩), .slice am nm cm] w fun e w' => e = .returned (.tuple #[.int .i64 (k : Nat), .int .i64 0]) ∧ ∃ mv' sv', Rp w' B p t c (rs.set k ⟨true, true, 0, sv', fillR xl.S M2 n⟩) now k mv' M2 ∧ Md p t w w' := by
  refine (rreserve_any am nm cm B2 n M2 xl h hM hok hn h1 h2 hx hS).mono ?_
  rintro e w' ⟨v, hv, ha, ⟨hl, _, _⟩ | ⟨hl, hnl, he, hr⟩⟩
  · have := ha k (by omega)
    rw [hk2] at this
    cases this
  · obtain rfl := first_is (f := fun i : Nat => liveB (rvs rs) now (i : Int)) ha hk2 hnl hk1
    exact ⟨he, hr⟩
theorem rreserve_full (am : Option Addr) (nm cm B2 : Nat) (M2 : List Mb) (xl : RV) (h : Rp w B p t c rs now last mv M) (hM : Sl 19 Mb.l 95 w B2 (.slice am nm cm) M2) (hok : mOk M2 = true) (hn : c.slots = n) (h1 : 1 ≤ n) (h2 : n ≤ 64) (hx : rs[last]? = some xl) (hS : xl.S.length = 0 ∨ xl.S.length = n)
    (hk1 : ∀ i : Nat, i < rs.length → liveB (rvs rs) now i = true) :
    Calls Try.prog 55 #[.pointer (some ⟨p, 0, none⟩), .slice am nm cm] w fun e w' => e = .returned (.tuple #[.int .i64 0, .int .i64 3]) ∧ Below w.heap.size w w' := by
  refine (rreserve_any am nm cm B2 n M2 xl h hM hok hn h1 h2 hx hS).mono ?_
  rintro e w' ⟨v, hv, ha, ⟨_, he, hb⟩ | ⟨hl, hnl, _, _⟩⟩
  · exact ⟨he, hb⟩
  · rw [hk1 v hl] at hnl; cases hnl
end Go.Proofs.Ythfgccibiajneaa
