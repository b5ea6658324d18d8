/-
  The wheel's methods, one contract each, for keys that are ints and keys that are strings.
-/
import Derived.Test.YtaadkehopfjclaaMap
import Derived.Test.YtaadkehopfjclaaSl
import Derived.Test.YtaadkehopfjclaaBld
import Derived.Test.YtaadkehopfjclaaRows
import Derived.WalkSpells
import Derived.WalkLawsBesides
import Derived.Lib.Hide
import Derived.Laws.MakeOwn
import Derived.OwnWalk
import Derived.Shelf.Abstract
namespace Go.Proofs.Ytaadkehopfjclaa
open Go.RowKit Go.MapKept Go.Shelf
theorem At.ne {w : World} {g g' : Nat} {t t' : TypeId} {cs cs' : Array Value} (h : At w g t cs) (h' : At w g' t' cs') (ht : t ≠ t') : g ≠ g' := by
  rintro rfl
  unfold At at h h'
  rw [h] at h'
  simp only [Option.some.injEq, Obj.cells.injEq] at h'
  exact ht h'.2.1
/-- The first of some elements. -/
theorem Sl.take {α : Type} {k : Nat} {enc : α → List Value} {e : TypeId} {w : World} {B n c g i : Nat} {L : List α} (hk : ∀ x, (enc x).length = k) (h : Sl k enc e w B (.slice (some ⟨g, 0, none⟩) n c) L) (hi : i ≤ L.length) : Sl k enc e w B (.slice (some ⟨g, 0, none⟩) i c) (L.take i) := by
  rcases h.cases with ⟨h1, rfl⟩ | ⟨g', c', cur, h1, h2, h3, h4, h5, h6, h7⟩
  · simp at h1
  · simp only [Value.slice.injEq, Option.some.injEq, Addr.mk.injEq, and_true] at h1
    obtain ⟨rfl, rfl, rfl⟩ := h1
    have hl : (L.take i).length = i := by rw [List.length_take]; omega
    refine ⟨by rw [flatLen hk], ?_⟩
    rw [hl]
    refine .inr ⟨g, c, cur, rfl, h2, h3, by omega, h5, h6, ?_⟩
    apply List.ext_getElem?
    intro t
    by_cases hi0 : k = 0
    · subst hi0
      have e : ∀ x, enc x = [] := fun x => List.eq_nil_of_length_eq_zero (hk x)
      have : ∀ l : List α, l.flatMap enc = [] := fun l => List.eq_nil_of_length_eq_zero (by rw [flatLen hk]; omega)
      rw [this]; simp
    · have hr : t % k < k := Nat.mod_lt _ (by omega)
      have hq : t / k * k + t % k = t := by rw [Nat.mul_comm]; exact Nat.div_add_mod t k
      have f1 := flatGet hk L (t / k) (t % k) hr
      have f2 := flatGet hk (L.take i) (t / k) (t % k) hr
      rw [hq] at f1 f2
      rw [f2, List.getElem?_take, List.getElem?_take]
      rw [← h7, List.getElem?_take] at f1
      by_cases ht : t < i * k
      · have hq1 : t / k < i := Nat.div_lt_of_lt_mul (by rwa [Nat.mul_comm] at ht)
        have : t < L.length * k := Nat.lt_of_lt_of_le ht (Nat.mul_le_mul_right _ hi)
        rw [if_pos ht, if_pos hq1, ← f1, if_pos this]
      · have hq1 : ¬ t / k < i := fun h => by
          have := Nat.mul_le_mul_right k (show t / k + 1 ≤ i from h)
          rw [Nat.succ_mul] at this
          omega
        rw [if_neg ht, if_neg hq1]; rfl
/-- An element, cell by cell. -/
theorem Sl.cells {α : Type} {k : Nat} {enc : α → List Value} {e : TypeId} {w : World} {B n c : Nat} {a : Option Addr} {L : List α} {x : α} {i : Nat} (hk : ∀ x, (enc x).length = k) (h : Sl k enc e w B (.slice a n c) L) (hx : L[i]? = some x) :
    ∃ g, a = some ⟨g, 0, none⟩ ∧ n = L.length ∧ n ≤ c ∧ B ≤ g ∧ g < w.heap.size ∧ ∀ j, j < k → w.cell? ⟨g, i * k + j, none⟩ = (enc x)[j]? := by
  rcases h.cases with ⟨h1, rfl⟩ | ⟨g, c', cur, h1, h2, h3, h4, h5, h6, h7⟩
  · simp at hx
  · simp only [Value.slice.injEq] at h1
    obtain ⟨rfl, rfl, rfl⟩ := h1
    refine ⟨g, rfl, rfl, h4, h2, h3.lt, fun j hj => ?_⟩
    have hi : i < L.length := (List.getElem?_eq_some_iff.1 hx).1
    have hf := flatGet hk L i j hj
    rw [← h7, hx, List.getElem?_take, if_pos (idxLt hi hj), Array.getElem?_toList] at hf
    rw [h3.cell, hf]; rfl
theorem step_below_of {a b c : World} (h : Below a.heap.size a b) (k : Below b.heap.size b c) : Below a.heap.size a c := step_below h k

namespace Wi
abbrev K : Type := Int
/-- Who is due: its key, when, the number of its Set. -/
structure D where
  k : K
  t : Nat
  s : Nat
abbrev due (x : D) : List Value := [.int .i64 (x.k), .int .i64 (x.t : Nat), .int .i64 (x.s : Nat)]
def ent (x : D) : Value × Value := (.int .i64 (x.k), .agg #[.int .i64 (x.k), .int .i64 (x.t : Nat), .int .i64 (x.s : Nat)])
theorem due_len (x : D) : (due x).length = 3 := rfl
theorem due_one (x : D) : ∀ u ∈ due x, u.oneCell' = true := by
  intro u hu
  simp only [due, List.mem_cons, List.not_mem_nil, or_false] at hu
  rcases hu with rfl | rfl | rfl <;> rfl
theorem isK (k : K) : IsKey (.int .i64) (.int .i64 (k)) := by simp [IsKey]
theorem infoD : (Try.prog.info? 51).map (fun i => (i.zero, i.size, i.bytes)) = some (some (.agg #[.int .i64 0, .int .i64 0, .int .i64 0]), 3, 24) := by kernel_rfl
theorem sizeD : (Try.prog.info? 51).map (·.size) = some 3 := by kernel_rfl
theorem ent_key (x y : D) : (ent x).1 = (ent y).1 ↔ x.k = y.k := by simp [ent]
end Wi

namespace Ws
abbrev K : Type := ByteArray
/-- Who is due: its key, when, the number of its Set. -/
structure D where
  k : K
  t : Nat
  s : Nat
abbrev due (x : D) : List Value := [.string (x.k), .int .i64 (x.t : Nat), .int .i64 (x.s : Nat)]
def ent (x : D) : Value × Value := (.string (x.k), .agg #[.string (x.k), .int .i64 (x.t : Nat), .int .i64 (x.s : Nat)])
theorem due_len (x : D) : (due x).length = 3 := rfl
theorem due_one (x : D) : ∀ u ∈ due x, u.oneCell' = true := by
  intro u hu
  simp only [due, List.mem_cons, List.not_mem_nil, or_false] at hu
  rcases hu with rfl | rfl | rfl <;> rfl
theorem isK (k : K) : IsKey (.string) (.string (k)) := by simp [IsKey]
theorem infoD : (Try.prog.info? 61).map (fun i => (i.zero, i.size, i.bytes)) = some (some (.agg #[.string ⟨#[]⟩, .int .i64 0, .int .i64 0]), 3, 32) := by kernel_rfl
theorem sizeD : (Try.prog.info? 61).map (·.size) = some 3 := by kernel_rfl
theorem ent_key (x y : D) : (ent x).1 = (ent y).1 ↔ x.k = y.k := by simp [ent]
end Ws

namespace Wi
/-- The closure of Drop: is it of this number? -/
theorem clo_any (bx : Nat) (x y : D) (w : World) (h : At w bx 51 #[.int .i64 (x.k), .int .i64 (x.t : Nat), .int .i64 (x.s : Nat)]) :
    Calls Try.prog 22 #[.agg #[.int .i64 (y.k), .int .i64 (y.t : Nat), .int .i64 (y.s : Nat)], .pointer (some ⟨bx, 0, none⟩)] w fun e w' => e = .returned (.bool (y.s == x.s)) ∧ Below w.heap.size w w' := by
  have hl := h.lt
  have c0 := h.cell 2
  simp only [List.getElem?_toArray, List.getElem?_cons_zero, List.getElem?_cons_succ] at c0
  clear h
  obtain ⟨k2, a2, s2⟩ := y
  obtain ⟨k1, a1, s1⟩ := x
  have hl' : bx < w.heap.size + 1 := by omega
  have hc : ((s2 : Int) == (s1 : Int)) = (s2 == s1) := by rw [Bool.eq_iff_iff, beq_iff_eq, beq_iff_eq]; omega
  have HC := Lib.hid hc
  clear hc
  go_enter Try.func22, Try.ntmps22
  go_wp2_with fail
  go_ret
  exact ⟨by rw [← HC.out]; rfl, (Below.refl _ _).alloc (Nat.le_refl _) _⟩
set_option maxHeartbeats 1000000 in
theorem idx_any (bx : Nat) (x : D) (a : Option Addr) (n c B : Nat) (L : List D) (w : World) (h : At w bx 51 #[.int .i64 (x.k), .int .i64 (x.t : Nat), .int .i64 (x.s : Nat)])
    (hs : Sl 3 due 51 w B (.slice a n c) L) (hbig : n ≤ 1073741824) :
    Calls Try.prog 25 #[.slice a n c, .func (.func 22) #[] #[.pointer (some ⟨bx, 0, none⟩)]] w fun e w' =>
      Below w.heap.size w w' ∧ ((e = .returned (.int .i64 (-1)) ∧ ∀ y ∈ L, y.s ≠ x.s) ∨ ∃ i y, e = .returned (.int .i64 (i : Nat)) ∧ L[i]? = some y ∧ y.s = x.s ∧ ∀ z ∈ L.take i, z.s ≠ x.s) := by
  have H := Lib.hid h
  have HS := Lib.hid hs
  have hn : n = L.length := (hs.rd due_len).2.1
  have HN := Lib.hid hn
  have eg := enters_of Try.func22 (by kernel_rfl) rfl
  clear h hs hn
  go_enter Try.func25, Try.ntmps25
  go_wp2_with fail
  go_loopw [5, 8] (fun _ s8 wr => ∃ j : Nat, j ≤ n ∧ s8 = .int .i64 j ∧ Below w.heap.size w wr ∧ (∀ z ∈ L.take j, z.s ≠ x.s)) (fun _ s8 _ => n - (intOf s8).toNat)
  case atStart => exact ⟨0, Nat.zero_le _, rfl, Below.refl _ _, by simp⟩
  case round =>
    obtain ⟨j, hj, rfl, hb, hz⟩ := hrel
    have HB := Lib.hid hb
    have HZ := Lib.hid hz
    clear hz
    by_cases hlt : j < n
    · have hltz : (j : Int) < (n : Int) := by omega
      obtain ⟨y, hy⟩ : ∃ y, L[j]? = some y := ⟨_, List.getElem?_eq_getElem (by have := HN.out; omega)⟩
      have HY := Lib.hid hy
      obtain ⟨g, rfl, -, hnc, hBg, hgl, hc⟩ := (HS.out).cells due_len hy
      have hgl2 : g < wr.heap.size := Nat.lt_of_lt_of_le hgl hb.size
      have c0 := (hb.cell (p := ⟨g, j * 3 + 0, none⟩) hgl).trans (hc 0 (by omega))
      have c1 := (hb.cell (p := ⟨g, j * 3 + 1, none⟩) hgl).trans (hc 1 (by omega))
      have c2 := (hb.cell (p := ⟨g, j * 3 + 2, none⟩) hgl).trans (hc 2 (by omega))
      simp only [due, List.getElem?_cons_zero, List.getElem?_cons_succ, Nat.add_zero] at c0 c1 c2
      have hX := H.out.below hb H.out.lt
      have hcall := clo_any bx x y wr hX
      clear hc hb hX hy
      cases hq : (y.s == x.s) with
      | true =>
        rw [hq] at hcall
        go_wp2_with fail
        refine hcall.mono ?_
        rintro e w' ⟨rfl, hb'⟩
        have HX := Lib.hid (step_below_of HB.out hb')
        clear hb'
        go_wp2_with fail
        go_ret
        exact ⟨HX.out, .inr ⟨j, y, rfl, HY.out, by simpa using hq, HZ.out⟩⟩
      | false =>
        rw [hq] at hcall
        go_wp2_with fail
        refine hcall.mono ?_
        rintro e w' ⟨rfl, hb'⟩
        have HX := Lib.hid (step_below_of HB.out hb')
        clear hb'
        go_wp2_with fail
        go_roundw
        case rel =>
          refine ⟨j + 1, by omega, by simp, HX.out, fun z hz => ?_⟩
          rw [List.take_add_one, HY.out] at hz
          rcases List.mem_append.1 hz with hz | hz
          · exact HZ.out z hz
          · simp only [Option.toList_some, List.mem_singleton] at hz
            subst hz
            simpa using hq
        case measure => simp [intOf] <;> omega
    · have hltz : ¬ (j : Int) < (n : Int) := by omega
      go_wp2_with fail
      go_ret
      have hnn := HN.out
      have hz := HZ.out
      rw [List.take_of_length_le (by omega)] at hz
      exact ⟨HB.out, .inl ⟨rfl, hz⟩⟩
end Wi

namespace Ws
/-- The closure of Drop: is it of this number? -/
theorem clo_any (bx : Nat) (x y : D) (w : World) (h : At w bx 61 #[.string (x.k), .int .i64 (x.t : Nat), .int .i64 (x.s : Nat)]) :
    Calls Try.prog 24 #[.agg #[.string (y.k), .int .i64 (y.t : Nat), .int .i64 (y.s : Nat)], .pointer (some ⟨bx, 0, none⟩)] w fun e w' => e = .returned (.bool (y.s == x.s)) ∧ Below w.heap.size w w' := by
  have hl := h.lt
  have c0 := h.cell 2
  simp only [List.getElem?_toArray, List.getElem?_cons_zero, List.getElem?_cons_succ] at c0
  clear h
  obtain ⟨k2, a2, s2⟩ := y
  obtain ⟨k1, a1, s1⟩ := x
  have hl' : bx < w.heap.size + 1 := by omega
  have hc : ((s2 : Int) == (s1 : Int)) = (s2 == s1) := by rw [Bool.eq_iff_iff, beq_iff_eq, beq_iff_eq]; omega
  have HC := Lib.hid hc
  clear hc
  go_enter Try.func24, Try.ntmps24
  go_wp2_with fail
  go_ret
  exact ⟨by rw [← HC.out]; rfl, (Below.refl _ _).alloc (Nat.le_refl _) _⟩
set_option maxHeartbeats 1000000 in
theorem idx_any (bx : Nat) (x : D) (a : Option Addr) (n c B : Nat) (L : List D) (w : World) (h : At w bx 61 #[.string (x.k), .int .i64 (x.t : Nat), .int .i64 (x.s : Nat)])
    (hs : Sl 3 due 61 w B (.slice a n c) L) (hbig : n ≤ 1073741824) :
    Calls Try.prog 26 #[.slice a n c, .func (.func 24) #[] #[.pointer (some ⟨bx, 0, none⟩)]] w fun e w' =>
      Below w.heap.size w w' ∧ ((e = .returned (.int .i64 (-1)) ∧ ∀ y ∈ L, y.s ≠ x.s) ∨ ∃ i y, e = .returned (.int .i64 (i : Nat)) ∧ L[i]? = some y ∧ y.s = x.s ∧ ∀ z ∈ L.take i, z.s ≠ x.s) := by
  have H := Lib.hid h
  have HS := Lib.hid hs
  have hn : n = L.length := (hs.rd due_len).2.1
  have HN := Lib.hid hn
  have eg := enters_of Try.func24 (by kernel_rfl) rfl
  clear h hs hn
  go_enter Try.func26, Try.ntmps26
  go_wp2_with fail
  go_loopw [5, 8] (fun _ s8 wr => ∃ j : Nat, j ≤ n ∧ s8 = .int .i64 j ∧ Below w.heap.size w wr ∧ (∀ z ∈ L.take j, z.s ≠ x.s)) (fun _ s8 _ => n - (intOf s8).toNat)
  case atStart => exact ⟨0, Nat.zero_le _, rfl, Below.refl _ _, by simp⟩
  case round =>
    obtain ⟨j, hj, rfl, hb, hz⟩ := hrel
    have HB := Lib.hid hb
    have HZ := Lib.hid hz
    clear hz
    by_cases hlt : j < n
    · have hltz : (j : Int) < (n : Int) := by omega
      obtain ⟨y, hy⟩ : ∃ y, L[j]? = some y := ⟨_, List.getElem?_eq_getElem (by have := HN.out; omega)⟩
      have HY := Lib.hid hy
      obtain ⟨g, rfl, -, hnc, hBg, hgl, hc⟩ := (HS.out).cells due_len hy
      have hgl2 : g < wr.heap.size := Nat.lt_of_lt_of_le hgl hb.size
      have c0 := (hb.cell (p := ⟨g, j * 3 + 0, none⟩) hgl).trans (hc 0 (by omega))
      have c1 := (hb.cell (p := ⟨g, j * 3 + 1, none⟩) hgl).trans (hc 1 (by omega))
      have c2 := (hb.cell (p := ⟨g, j * 3 + 2, none⟩) hgl).trans (hc 2 (by omega))
      simp only [due, List.getElem?_cons_zero, List.getElem?_cons_succ, Nat.add_zero] at c0 c1 c2
      have hX := H.out.below hb H.out.lt
      have hcall := clo_any bx x y wr hX
      clear hc hb hX hy
      cases hq : (y.s == x.s) with
      | true =>
        rw [hq] at hcall
        go_wp2_with fail
        refine hcall.mono ?_
        rintro e w' ⟨rfl, hb'⟩
        have HX := Lib.hid (step_below_of HB.out hb')
        clear hb'
        go_wp2_with fail
        go_ret
        exact ⟨HX.out, .inr ⟨j, y, rfl, HY.out, by simpa using hq, HZ.out⟩⟩
      | false =>
        rw [hq] at hcall
        go_wp2_with fail
        refine hcall.mono ?_
        rintro e w' ⟨rfl, hb'⟩
        have HX := Lib.hid (step_below_of HB.out hb')
        clear hb'
        go_wp2_with fail
        go_roundw
        case rel =>
          refine ⟨j + 1, by omega, by simp, HX.out, fun z hz => ?_⟩
          rw [List.take_add_one, HY.out] at hz
          rcases List.mem_append.1 hz with hz | hz
          · exact HZ.out z hz
          · simp only [Option.toList_some, List.mem_singleton] at hz
            subst hz
            simpa using hq
        case measure => simp [intOf] <;> omega
    · have hltz : ¬ (j : Int) < (n : Int) := by omega
      go_wp2_with fail
      go_ret
      have hnn := HN.out
      have hz := HZ.out
      rw [List.take_of_length_le (by omega)] at hz
      exact ⟨HB.out, .inl ⟨rfl, hz⟩⟩
end Ws
end Go.Proofs.Ytaadkehopfjclaa
