/-
  The grid's methods, one contract each, for each type that a grid is made of.
-/
import Derived.Test.YtjlgkljifpjehaaGridFillsAny
import Derived.Test.YtjlgkljifpjehaaFlat
import Derived.WalkSpells
import Derived.WalkLawsBesides
import Derived.Lib.Hide
import Derived.Laws.MakeOwn
import Derived.OwnWalk
import Derived.RangeFuncNested
import Derived.RangeFuncBound
import Derived.RangeFuncCalls
import Derived.RangeFuncLeaves
import Derived.RangeFuncBox
import Derived.Shelf.Abstract
import Derived.Shelf.RegionOpen
import Derived.WalkKit
import Derived.OwnWalkIn
import Derived.TacticsInMore
import Derived.LoopNIn
import Derived.LoopIn
import Derived.Laws.StructEq
namespace Go.Proofs.Ytjlgkljifpjehaa
open Go.RowKit Go.Shelf
attribute [local go_sem] Oper.semAt_some

namespace Gi
/-- What stands behind a place. -/
def suf (l : List (Option V)) (r N : Nat) : List (Nat × V) := (List.range' (r + 1) (N - (r + 1))).filterMap fun j => (l[j]?).join.map fun x => (j, x)
theorem fm_congr {α β : Type} {f g : α → Option β} : ∀ (l : List α), (∀ x ∈ l, f x = g x) → l.filterMap f = l.filterMap g
  | [], _ => rfl
  | x :: r, h => by rw [List.filterMap_cons, List.filterMap_cons, h x (by simp), fm_congr r (fun y hy => h y (by simp [hy]))]
theorem got_split (l : List (Option V)) (r N : Nat) (h : r < N) : got l N = got l r ++ (((l[r]?).join.map fun x => (r, x)).toList ++ suf l r N) := by
  unfold got suf
  have e : List.range N = List.range r ++ (r :: List.range' (r + 1) (N - (r + 1))) := by
    rw [List.range_eq_range', List.range_eq_range']
    have h1 : List.range' 0 N = List.range' 0 (r + (N - r)) := by rw [Nat.add_sub_cancel' (by omega)]
    rw [h1, ← List.range'_append_1, Nat.zero_add]
    congr 1
    rw [show N - r = (N - (r + 1)) + 1 by omega, List.range'_succ]
  rw [e, List.filterMap_append, List.filterMap_cons]
  cases ((l[r]?).join.map fun x => (r, x)) <;> rfl
theorem got_set (l : List (Option V)) (r : Nat) (o : Option V) (m : Nat) (hm : m ≤ r) : got (l.set r o) m = got l m := by
  unfold got
  apply fm_congr
  intro j hj
  have := List.mem_range.1 hj
  rw [List.getElem?_set_ne (by omega)]
theorem suf_set (l : List (Option V)) (r : Nat) (o : Option V) (N : Nat) : suf (l.set r o) r N = suf l r N := by
  unfold suf
  apply fm_congr
  intro j hj
  have := List.mem_range'_1.1 hj
  rw [List.getElem?_set_ne (by omega)]
theorem got_mem {l : List (Option V)} {m q : Nat} {y : V} (h : (q, y) ∈ got l m) : q < m := by
  unfold got at h
  obtain ⟨j, h1, h2⟩ := List.mem_filterMap.1 h
  obtain ⟨_, _, h3⟩ := Option.map_eq_some_iff.1 h2
  simp only [Prod.mk.injEq] at h3
  have := List.mem_range.1 h1
  omega
theorem suf_mem {l : List (Option V)} {r N q : Nat} {y : V} (h : (q, y) ∈ suf l r N) : r < q ∧ q < N := by
  unfold suf at h
  obtain ⟨j, h1, h2⟩ := List.mem_filterMap.1 h
  obtain ⟨_, _, h3⟩ := Option.map_eq_some_iff.1 h2
  simp only [Prod.mk.injEq] at h3
  have := List.mem_range'_1.1 h1
  omega
/-- How many stand ahead of a place. -/
def rk (l : List (Option V)) (r : Nat) : Nat := (got l r).length
theorem rk_le (l : List (Option V)) (r N : Nat) (h : r < N) : rk l r ≤ (got l N).length := by rw [got_split l r N h, List.length_append]; unfold rk; omega
theorem got_ahead (l : List (Option V)) (r N j : Nat) (h : r < N) (hj : j < rk l r) : ∃ q y, (got l N)[j]? = some (q, y) ∧ q < r := by
  unfold rk at hj
  rw [got_split l r N h, List.getElem?_append_left hj]
  exact ⟨((got l r)[j]).1, ((got l r)[j]).2, List.getElem?_eq_getElem hj, got_mem (List.getElem_mem hj)⟩
theorem got_none_at (l : List (Option V)) (r N : Nat) (h : r < N) (hl : l[r]? = some none) (hj : rk l r < (got l N).length) : ∃ q y, (got l N)[rk l r]? = some (q, y) ∧ r < q := by
  have hg := got_split l r N h
  rw [hl] at hg
  simp only [Option.join_some, Option.map_none, Option.toList_none, List.nil_append] at hg
  rw [hg] at hj ⊢
  unfold rk at hj ⊢
  rw [List.getElem?_append_right (Nat.le_refl _), Nat.sub_self]
  rw [List.length_append] at hj
  have h0 : 0 < (suf l r N).length := by omega
  exact ⟨((suf l r N)[0]).1, ((suf l r N)[0]).2, List.getElem?_eq_getElem h0, (suf_mem (List.getElem_mem h0)).1⟩
theorem got_some_at (l : List (Option V)) (r N : Nat) (y : V) (h : r < N) (hl : l[r]? = some (some y)) : (got l N)[rk l r]? = some (r, y) := by
  have hg := got_split l r N h
  rw [hl] at hg
  simp only [Option.join_some, Option.map_some, Option.toList_some, List.singleton_append] at hg
  rw [hg]
  unfold rk
  rw [List.getElem?_append_right (Nat.le_refl _), Nat.sub_self]; rfl
theorem got_ins (l : List (Option V)) (r N : Nat) (x : V) (h : r < N) (h2 : r < l.length) (hl : l[r]? = some none) : (got l N).take (rk l r) ++ [(r, x)] ++ (got l N).drop (rk l r) = got (l.set r (some x)) N := by
  have hg := got_split l r N h
  rw [hl] at hg
  simp only [Option.join_some, Option.map_none, Option.toList_none, List.nil_append] at hg
  rw [got_split (l.set r (some x)) r N h, got_set _ _ _ _ (Nat.le_refl _), suf_set, List.getElem?_set_self h2, hg]
  unfold rk
  rw [List.take_left, List.drop_left]
  simp
theorem got_del (l : List (Option V)) (r N : Nat) (y : V) (h : r < N) (hl : l[r]? = some (some y)) : (got l N).take (rk l r) ++ (got l N).drop (rk l r + 1) = got (l.set r none) N := by
  have h2 : r < l.length := (List.getElem?_eq_some_iff.1 hl).1
  have hg := got_split l r N h
  rw [hl] at hg
  simp only [Option.join_some, Option.map_some, Option.toList_some, List.singleton_append] at hg
  rw [got_split (l.set r none) r N h, got_set _ _ _ _ (Nat.le_refl _), suf_set, List.getElem?_set_self h2, hg]
  unfold rk
  rw [List.take_left, List.drop_append, List.drop_eq_nil_of_le (by omega), show (got l r).length + 1 - (got l r).length = 1 by omega]
  simp
theorem got_upd (l : List (Option V)) (r N : Nat) (x y : V) (h : r < N) (hl : l[r]? = some (some y)) : (got l N).set (rk l r) (r, x) = got (l.set r (some x)) N := by
  have h2 : r < l.length := (List.getElem?_eq_some_iff.1 hl).1
  have hg := got_split l r N h
  rw [hl] at hg
  simp only [Option.join_some, Option.map_some, Option.toList_some, List.singleton_append] at hg
  rw [got_split (l.set r (some x)) r N h, got_set _ _ _ _ (Nat.le_refl _), suf_set, List.getElem?_set_self h2, hg]
  unfold rk
  rw [List.set_append_right _ _ (Nat.le_refl _), Nat.sub_self]
  simp
theorem got_cnt (l : List (Option V)) : ∀ k, k ≤ l.length → (got l k).length = cnt (l.take k)
  | 0, _ => by simp [got, cnt]
  | k + 1, h => by
    have ih := got_cnt l k (by omega)
    have hk : k < l.length := by omega
    rw [List.take_succ_eq_append_getElem hk]
    cases ho : l[k] with
    | none =>
      rw [got_none (by rw [List.getElem?_eq_getElem hk, ho]), ih]
      simp [cnt, List.filter_append]
    | some x =>
      rw [got_some (by rw [List.getElem?_eq_getElem hk, ho]), List.length_append, ih]
      simp [cnt, List.filter_append]
theorem got_cnt_all (l : List (Option V)) (N : Nat) (h : l.length = N) : (got l N).length = cnt l := by
  rw [got_cnt l N (by omega), List.take_of_length_le (by omega)]
/-- Does a place stand ahead of another? -/
def bef (s i s' i' : Int) : Bool := decide (s < s' ∨ s = s' ∧ i < i')
theorem bef_nat (b q r : Nat) (hb : 0 < b) : bef ((q / b : Nat) : Int) ((q % b : Nat) : Int) ((r / b : Nat) : Int) ((r % b : Nat) : Int) = decide (q < r) := by
  unfold bef
  rw [Bool.eq_iff_iff, decide_eq_true_iff, decide_eq_true_iff]
  have h1 := Nat.div_add_mod q b
  have h2 := Nat.div_add_mod r b
  have m1 := Nat.mod_lt q hb
  have m2 := Nat.mod_lt r hb
  generalize q / b = u at *
  generalize r / b = v at *
  generalize q % b = s at *
  generalize r % b = t at *
  constructor
  · rintro (h | ⟨h, h'⟩)
    · have h3 : u + 1 ≤ v := by omega
      have := Nat.mul_le_mul_left b h3
      rw [Nat.mul_add] at this
      omega
    · have h3 : u = v := by omega
      subst h3
      omega
  · intro h
    rcases Nat.lt_trichotomy u v with h3 | h3 | h3
    · exact .inl (by omega)
    · subst h3
      exact .inr ⟨rfl, by omega⟩
    · have := Nat.mul_le_mul_left b (show v + 1 ≤ u by omega)
      rw [Nat.mul_add] at this
      omega
/-- Does the search go on? -/
def cont (W : List (Nat × V)) (b : Nat) (s i : Int) (t : Nat) : Bool :=
  match W[t]? with
  | some x => bef ((x.1 / b : Nat) : Int) ((x.1 % b : Nat) : Int) s i
  | none => false
/-- Is the place where it ends the one that is looked for? -/
def hasAt (W : List (Nat × V)) (b : Nat) (s i : Int) (t : Nat) : Bool :=
  match W[t]? with
  | some x => (((x.1 / b : Nat) : Int) == s) && (((x.1 % b : Nat) : Int) == i)
  | none => false
theorem pin_place {a b : Nat} {s i : Int} (h : pin a b s i = true) : ∃ r, r = s.toNat * b + i.toNat ∧ r < a * b ∧ s = ((r / b : Nat) : Int) ∧ i = ((r % b : Nat) : Int) := by
  simp only [pin, decide_eq_true_eq] at h
  obtain ⟨h1, h2, h3, h4⟩ := h
  obtain ⟨u, rfl⟩ : ∃ u : Nat, s = u := ⟨s.toNat, by omega⟩
  obtain ⟨v, rfl⟩ : ∃ v : Nat, i = v := ⟨i.toNat, by omega⟩
  have hv : v < b := by omega
  refine ⟨u * b + v, by simp, place_lt (by omega) hv, ?_, ?_⟩
  · rw [Nat.mul_comm, Nat.mul_add_div (by omega), Nat.div_eq_of_lt hv]; simp
  · rw [Nat.mul_comm, Nat.mul_add_mod, Nat.mod_eq_of_lt hv]
theorem cont_yes {a b : Nat} {s i : Int} {l : List (Option V)} {t : Nat} (hb : 1 ≤ b) (hp : pin a b s i = true) (hl : l.length = a * b) (ht : t ≤ rk l (s.toNat * b + i.toNat)) (hc : cont (got l (a * b)) b s i t = true) : t + 1 ≤ rk l (s.toNat * b + i.toNat) := by
  obtain ⟨r, hr, hrN, h1, h2⟩ := pin_place hp
  rw [← hr] at ht ⊢
  rcases Nat.lt_or_ge t (rk l r) with h3 | h3
  · exact h3
  · obtain rfl : t = rk l r := by omega
    exfalso
    unfold cont at hc
    split at hc
    · rename_i x hx
      rw [h1, h2, bef_nat _ _ _ (by omega), decide_eq_true_iff] at hc
      obtain ⟨o, ho⟩ : ∃ o, l[r]? = some o := ⟨_, List.getElem?_eq_getElem (by omega)⟩
      cases o with
      | none =>
        obtain ⟨q, y, h4, h5⟩ := got_none_at l r _ hrN ho (List.getElem?_eq_some_iff.1 hx).1
        rw [hx, Option.some.injEq] at h4
        rw [h4] at hc
        simp only at hc
        omega
      | some y =>
        have h4 := got_some_at l r _ y hrN ho
        rw [hx, Option.some.injEq] at h4
        rw [h4] at hc
        simp only at hc
        omega
    · cases hc
theorem cont_no {a b : Nat} {s i : Int} {l : List (Option V)} {t : Nat} (hb : 1 ≤ b) (hp : pin a b s i = true) (ht : t ≤ rk l (s.toNat * b + i.toNat)) (hc : cont (got l (a * b)) b s i t = false) : t = rk l (s.toNat * b + i.toNat) := by
  obtain ⟨r, hr, hrN, h1, h2⟩ := pin_place hp
  rw [← hr] at ht ⊢
  rcases Nat.lt_or_ge t (rk l r) with h3 | h3
  · exfalso
    obtain ⟨q, y, h4, h5⟩ := got_ahead l r _ t hrN h3
    unfold cont at hc
    rw [h4] at hc
    simp only at hc
    rw [h1, h2, bef_nat _ _ _ (by omega), decide_eq_false_iff_not] at hc
    exact hc h5
  · omega
theorem has_eq {a b : Nat} {s i : Int} {l : List (Option V)} {t : Nat} (hb : 1 ≤ b) (hl : l.length = a * b) (ht : pin a b s i = true → t = rk l (s.toNat * b + i.toNat)) : hasAt (got l (a * b)) b s i t = (spot a b s i l).isSome := by
  unfold spot
  cases hp : pin a b s i with
  | false =>
    simp only [Bool.false_eq_true, if_false, Option.isSome_none]
    unfold hasAt
    split
    · rename_i x hx
      have hq : x.1 < a * b := got_mem (y := x.2) (List.mem_of_getElem? hx)
      have h1 : x.1 / b < a := (Nat.div_lt_iff_lt_mul (by omega)).2 hq
      have h2 : x.1 % b < b := Nat.mod_lt _ (by omega)
      rw [Bool.eq_false_iff]
      intro h3
      simp only [Bool.and_eq_true, beq_iff_eq] at h3
      rw [← h3.1, ← h3.2] at hp
      have : pin a b ((x.1 / b : Nat) : Int) ((x.1 % b : Nat) : Int) = true := decide_eq_true ⟨Int.natCast_nonneg _, Int.ofNat_lt.2 h1, Int.natCast_nonneg _, Int.ofNat_lt.2 h2⟩
      rw [this] at hp; cases hp
    · rfl
  | true =>
    obtain ⟨r, hr, hrN, h1, h2⟩ := pin_place hp
    have ht := ht hp
    rw [← hr] at ht ⊢
    rw [if_pos rfl, ht]
    obtain ⟨o, ho⟩ : ∃ o, l[r]? = some o := ⟨_, List.getElem?_eq_getElem (by omega)⟩
    rw [ho]
    unfold hasAt
    cases o with
    | none =>
      split
      · rename_i x hx
        obtain ⟨q, y, h4, h5⟩ := got_none_at l r _ hrN ho (List.getElem?_eq_some_iff.1 hx).1
        rw [hx, Option.some.injEq] at h4
        rw [Option.join_some, Option.isSome_none, Bool.eq_false_iff]
        intro h6
        simp only [Bool.and_eq_true, beq_iff_eq] at h6
        rw [h1, h2] at h6
        have e1 := Nat.div_add_mod x.1 b
        have e2 := Nat.div_add_mod r b
        have e3 : x.1 / b = r / b := by omega
        have e4 : x.1 % b = r % b := by omega
        rw [e3, e4] at e1
        rw [h4] at e1
        simp only at e1
        omega
      · rfl
    | some y =>
      rw [got_some_at l r _ y hrN ho]
      simp only [Option.join_some, Option.isSome_some, h1, h2, BEq.rfl, Bool.and_self]
/-- What an act makes of the cells. -/
structure Act where
  kind : Int
  s : Int
  i : Int
  v : Int
def actEnc (x : Act) : List Value := [.int .i64 x.kind, .int .i64 x.s, .int .i64 x.i, .int .i64 x.v]
def actKs : List Pl := [.int .i64, .int .i64, .int .i64, .int .i64]
theorem rd_acts {w : World} {a : Option Addr} {len cap : Nat} (h : IsFlat actKs w a len cap) : ∃ L : List Act, Rd 4 actEnc w a len L := by
  obtain ⟨L, h1, _⟩ := h.rd (α := Act) (k := 4) (enc := actEnc) (fun g => ⟨intOf (g 0), intOf (g 1), intOf (g 2), intOf (g 3)⟩) rfl (by
    intro g hg j hj
    have h0 := hg 0 _ rfl
    have h1 := hg 1 _ rfl
    have h2 := hg 2 _ rfl
    have h3 := hg 3 _ rfl
    obtain ⟨n0, e0, _⟩ := h0
    obtain ⟨n1, e1, _⟩ := h1
    obtain ⟨n2, e2, _⟩ := h2
    obtain ⟨n3, e3, _⟩ := h3
    have hj : j = 0 ∨ j = 1 ∨ j = 2 ∨ j = 3 := by simp [actKs] at hj; omega
    rcases hj with rfl | rfl | rfl | rfl <;> simp [actEnc, e0, e1, e2, e3, intOf])
  exact ⟨L, h1⟩
/-- A grid, as a fact that is carried. -/
def GrI (w : World) (gh gl st sz : Nat) (l : List (Option V)) : Prop := Gr w gh gl st sz l
theorem GrI.below {w w' : World} {gh gl st sz : Nat} {l : List (Option V)} (h : GrI w gh gl st sz l) (hb : Below w.heap.size w w') : GrI w' gh gl st sz l := Gr.below h hb h.1.lt h.2.1.lt
theorem GrI.mod {w w' : World} {M : Nat → Prop} {gh gl st sz : Nat} {l : List (Option V)} (h : GrI w gh gl st sz l) (hm : Mod M w w') (h1 : ¬ M gh) (h2 : ¬ M gl) : GrI w' gh gl st sz l := Gr.mod h hm h1 h2
theorem GrI.drew {w : World} {gh gl st sz : Nat} {l : List (Option V)} (h : GrI w gh gl st sz l) : GrI w.drew gh gl st sz l := h
theorem item_len (b : Nat) (x : Nat × V) : (item b x).length = 3 := rfl
theorem item_one (b : Nat) (x : Nat × V) : ∀ u ∈ item b x, u.oneCell' = true := by intro u hu; simp [item] at hu; rcases hu with rfl | rfl | rfl <;> rfl
theorem got_new (N m : Nat) : got (List.replicate N none) m = [] := by
  unfold got
  rw [List.filterMap_eq_nil_iff]
  intro j _
  rw [List.getElem?_replicate]
  split <;> rfl
theorem set_same (l : List (Option V)) (r : Nat) (o : Option V) (h : l[r]? = some o) : l.set r o = l := by
  apply List.ext_getElem?
  intro t
  rw [List.getElem?_set]
  by_cases ht : r = t
  · subst ht
    rw [if_pos rfl, if_pos (List.getElem?_eq_some_iff.1 h).1, h]
  · rw [if_neg ht]
/-- What is where the search ends. -/
theorem place_cases {a b : Nat} {s i : Int} {l : List (Option V)} {t : Nat} (hl : l.length = a * b) (ht : pin a b s i = true → t = rk l (s.toNat * b + i.toNat)) :
    (∃ r y, pin a b s i = true ∧ spot a b s i l = some y ∧ r < a * b ∧ s = ((r / b : Nat) : Int) ∧ i = ((r % b : Nat) : Int) ∧ (∀ o, put a b s i l o = l.set r o) ∧ l[r]? = some (some y) ∧ t = rk l r) ∨
    (∃ r, pin a b s i = true ∧ spot a b s i l = none ∧ r < a * b ∧ s = ((r / b : Nat) : Int) ∧ i = ((r % b : Nat) : Int) ∧ (∀ o, put a b s i l o = l.set r o) ∧ l[r]? = some none ∧ t = rk l r) ∨
    (pin a b s i = false ∧ spot a b s i l = none ∧ ∀ o, put a b s i l o = l) := by
  unfold spot put
  cases hp : pin a b s i with
  | false => exact .inr (.inr ⟨rfl, rfl, fun _ => rfl⟩)
  | true =>
    obtain ⟨r, hr, hrN, h1, h2⟩ := pin_place hp
    have ht := ht hp
    rw [← hr] at ht ⊢
    obtain ⟨o, ho⟩ : ∃ o, l[r]? = some o := ⟨_, List.getElem?_eq_getElem (by omega)⟩
    rw [ho]
    cases o with
    | none => exact .inr (.inl ⟨r, rfl, rfl, hrN, h1, h2, fun _ => rfl, ho, ht⟩)
    | some y => exact .inl ⟨r, y, rfl, rfl, hrN, h1, h2, fun _ => rfl, ho, ht⟩
end Gi
end Go.Proofs.Ytjlgkljifpjehaa
