/-
  The wheel's methods, one contract each, for keys that are ints and keys that are strings.
-/
import Derived.Test.YtaadkehopfjclaaWhIn
import Derived.WalkSpells
import Derived.WalkLawsBesides
import Derived.Lib.Hide
import Derived.Laws.MakeOwn
import Derived.OwnWalk
import Derived.Shelf.Abstract
namespace Go.Proofs.Ytaadkehopfjclaa
open Go.RowKit Go.MapKept Go.Shelf
theorem splice_lt : ∀ (vs : List Value) (cs : Array Value) (o j : Nat), j < o → (splice cs o vs)[j]? = cs[j]?
  | [], _, _, _, _ => rfl
  | v :: r, cs, o, j, h => by
    rw [splice, splice_lt r _ _ _ (by omega), Array.getElem?_setIfInBounds, if_neg (by omega)]
/-- Cells written behind the last element. -/
theorem Sl.past {α : Type} {k : Nat} {enc : α → List Value} {e : TypeId} {w : World} {B n c g o : Nat} {L : List α} (h : Sl k enc e w B (.slice (some ⟨g, 0, none⟩) n c) L) (vs : List Value) (ho : L.length * k ≤ o) : Sl k enc e (w.setCells g o vs) B (.slice (some ⟨g, 0, none⟩) n c) L := by
  refine ⟨h.1, ?_⟩
  rcases h.2 with ⟨h1, h2⟩ | ⟨g', cap, cur, h1, h2, h3, h4, h5, h6, h7⟩
  · simp at h1
  · simp only [Value.slice.injEq, Option.some.injEq, Addr.mk.injEq, and_true] at h1
    obtain ⟨rfl, h1, rfl⟩ := h1
    refine .inr ⟨g, c, splice cur o vs, by rw [h1], h2, At.setCells vs o w cur h3, h4, h5, by rw [splice_size]; exact h6, ?_⟩
    rw [← h7]
    apply List.ext_getElem?
    intro t
    rw [List.getElem?_take, List.getElem?_take]
    by_cases ht : t < L.length * k
    · rw [if_pos ht, if_pos ht, Array.getElem?_toList, Array.getElem?_toList, splice_lt _ _ _ _ (by omega)]
    · rw [if_neg ht, if_neg ht]
theorem Sl.frozen {α : Type} {k : Nat} {enc : α → List Value} {e : TypeId} {w : World} {B n c g : Nat} {L : List α} (h : Sl k enc e w B (.slice (some ⟨g, 0, none⟩) n c) L) (i : Nat) : w.frozen? ⟨g, i, none⟩ = false := by
  rcases h.cases with ⟨h1, rfl⟩ | ⟨g', c', cur, h1, h2, h3, h4, h5, h6, h7⟩
  · simp at h1
  · simp only [Value.slice.injEq, Option.some.injEq, Addr.mk.injEq, and_true] at h1
    obtain ⟨rfl, rfl, rfl⟩ := h1
    exact h3.frozen i
/-- 'clear(s[i:])'. -/
theorem Sl.clear {P : Program} {α : Type} {k : Nat} {enc : α → List Value} {e t : TypeId} {w : World} {B n c g : Nat} {L : List α} {z : Value} {bytes : Nat} (h : Sl k enc e w B (.slice (some ⟨g, 0, none⟩) n c) L)
    (ht : P.underlying t = some (.slice e)) (hinfo : (P.info? e).map (fun i => (i.zero, i.size, i.bytes)) = some (some z, k, bytes)) (hz : z.cells.size = k) (h1 : z.cells.all (·.oneCell') = true) (i d : Nat) (hi : i < L.length) (ty : TypeId) :
    ∃ vs : List Value, (Builtin.clear_ #[t] ty #[.slice (some ⟨g, i * k, none⟩) (L.length - i) d]).run P w = .ok (.tuple #[]) (w.setCells g (i * k) vs) := by
  obtain ⟨i0, hi0, hz0, -, -⟩ := info_parts hinfo
  have hzv : (zeroValue e).run P w = .ok z w := by simp [zeroValue, typeInfo, hi0, hz0, Result.andThen]
  obtain ⟨q, hq⟩ : ∃ q, L.length - i = q + 1 := ⟨L.length - i - 1, by omega⟩
  have hq2 : q + 1 ≤ L.length - i := by omega
  rw [hq]
  rcases h.cases with ⟨h1, rfl⟩ | ⟨g', c', cur, h2, h3, h4, h5, h6, h7, h8⟩
  · simp at h1
  · simp only [Value.slice.injEq, Option.some.injEq, Addr.mk.injEq, and_true] at h2
    obtain ⟨rfl, rfl, rfl⟩ := h2
    have hsz : (Builtin.zeroCells z.cells (q + 1)).size = (q + 1) * k := by simp [Builtin.zeroCells, hz]
    have hst := store_at (P := P) w g (i * k) e cur (Builtin.zeroCells z.cells (q + 1)) h4 (by
      rw [hsz, h7, ← Nat.add_mul]; exact Nat.mul_le_mul_right _ (by omega)) (by
      rw [Array.all_eq_true] at h1 ⊢
      intro j hj
      have hk : 0 < k := Nat.pos_of_ne_zero fun h0 => by rw [hsz, h0] at hj; omega
      simp only [Builtin.zeroCells, Array.getElem_map, Array.getElem_range]
      have hm : j % z.cells.size < z.cells.size := Nat.mod_lt _ (by omega)
      rw [getElem!_pos z.cells (j % z.cells.size) hm]
      exact h1 _ hm)
    refine ⟨(Builtin.zeroCells z.cells (q + 1)).toList, ?_⟩
    simp [Builtin.clear_, run_underlying ht, hzv, hst, Result.andThen]

namespace Wi
theorem slT : Try.prog.underlying 52 = some (.slice 51) := by kernel_rfl
set_option maxHeartbeats 1000000 in
theorem del_any (bx : Nat) (x : D) (v : Value) (B : Nat) (L : List D) (w : World) (h : At w bx 51 #[.int .i64 (x.k), .int .i64 (x.t : Nat), .int .i64 (x.s : Nat)])
    (hs : Sl 3 due 51 w B v L) (hbig : L.length ≤ 1073741824) (hne : v.ownBlock ≠ some bx) :
    Calls Try.prog 21 #[v, .func (.func 22) #[] #[.pointer (some ⟨bx, 0, none⟩)]] w fun e w' =>
      ∃ v', e = .returned v' ∧ Sl 3 due 51 w' B v' (L.filter fun y => y.s != x.s) ∧ v'.ownBlock = v.ownBlock ∧ Mod (fun b => v.ownBlock = some b) w w' := by
  have H := Lib.hid h
  have HS := Lib.hid hs
  obtain ⟨a, c, rfl⟩ := hs.form
  have hl := h.lt
  clear h hs
  go_enter Try.func21, Try.ntmps21
  go_wp2_with fail
  refine (idx_any bx x a L.length c B L w H.out HS.out hbig).mono ?_
  rintro e w1 ⟨hb, hcase⟩
  have HB := Lib.hid hb
  clear hb
  rcases hcase with ⟨rfl, hall⟩ | ⟨i, y, rfl, hy, hys, hno⟩
  · have HA := Lib.hid (List.filter_eq_self.2 (fun z hz => by simpa using hall z hz) : L.filter (fun y => y.s != x.s) = L)
    clear hall
    go_wp2_with fail
    go_ret
    refine ⟨_, rfl, ?_, rfl, Mod.of_below HB.out⟩
    rw [HA.out]
    exact HS.out.below HB.out
  · have hi : i < L.length := (List.getElem?_eq_some_iff.1 hy).1
    obtain ⟨g, rfl, -, hnc, hBg, hgl, -⟩ := (HS.out).cells due_len hy
    have HY := Lib.hid hy
    have HYS := Lib.hid hys
    have HNO := Lib.hid hno
    clear hy hys hno
    have hgx : g ≠ bx := fun h => hne (by rw [h]; rfl)
    have hd : ((i : Int) == -1) = false := by rw [beq_eq_false_iff_ne]; omega
    have hx1 : IntKind.i64.wrap ((i : Int) + 1) = ((i + 1 : Nat) : Int) := by rw [IntKind.wrap_i64]; omega
    go_wp2_with fail
    go_loopw [5, 6, 7] (fun s5 s6 _ wr => ∃ (i j : Nat) (L' : List D), s5 = .int .i64 i ∧ s6 = .int .i64 j ∧ i < j ∧ j ≤ L.length ∧ L'.length = L.length ∧ L'.take i = (L.take j).filter (fun y => y.s != x.s) ∧ L'.drop j = L.drop j ∧ Sl 3 due 51 wr B (.slice (some ⟨g, 0, none⟩) L.length c) L' ∧ At wr bx 51 #[.int .i64 (x.k), .int .i64 (x.t : Nat), .int .i64 (x.s : Nat)] ∧ Mod (fun b => b = g) w wr) (fun _ s6 _ _ => L.length - (intOf s6).toNat)
    case atStart =>
      refine ⟨i, i + 1, L, rfl, by simp, by omega, by omega, rfl, ?_, rfl, HS.out.below HB.out, H.out.below HB.out hl, Mod.of_below HB.out⟩
      rw [List.take_add_one, HY.out, List.filter_append, List.filter_eq_self.2 (fun z hz => by simpa using HNO.out z hz)]
      simp [HYS.out]
    case round =>
      clear HS H HB HY HYS HNO hi
      obtain ⟨i, j, L', rfl, rfl, hij, hj, hlen, htk, hdr, hs, hx, hm⟩ := hrel
      have HS := Lib.hid hs
      have HT := Lib.hid htk
      have HD := Lib.hid hdr
      have HX := Lib.hid hx
      have HM := Lib.hid hm
      clear htk hdr
      by_cases hlt : j < L.length
      · have hltz : (j : Int) < (L.length : Int) := by omega
        obtain ⟨y, hy⟩ : ∃ y, L'[j]? = some y := ⟨_, List.getElem?_eq_getElem (by omega)⟩
        obtain ⟨g', hg', -, -, -, hgl2, hc⟩ := hs.cells due_len hy
        obtain rfl : g = g' := by simpa using hg'
        have c0 := hc 0 (by omega)
        have c1 := hc 1 (by omega)
        have c2 := hc 2 (by omega)
        simp only [due, List.getElem?_cons_zero, List.getElem?_cons_succ, Nat.add_zero] at c0 c1 c2
        have HY := Lib.hid hy
        clear hg' hc hs hx hm hy
        go_wp2_with fail
        refine (clo_any bx x y _ (HX.out.alloc _)).mono ?_
        rintro e w2 ⟨rfl, hb2⟩
        obtain ⟨gv, hgv⟩ : ∃ gv, gv = wr.heap.size := ⟨_, rfl⟩
        rw [← hgv]
        have HV := Lib.hid ((at_new wr 51 #[.int .i64 (y.k), .int .i64 (y.t : Nat), .int .i64 (y.s : Nat)] gv hgv).below hb2 (by rw [hgv]; simp))
        have hb3 : Below wr.heap.size wr w2 := step_below ((Below.refl _ _).alloc (Nat.le_refl _) _) hb2
        have HS2 := Lib.hid (HS.out.below hb3)
        have HX2 := Lib.hid (HX.out.below hb3 HX.out.lt)
        have HM2 := Lib.hid (HM.out.trans (Mod.of_below hb3))
        clear hb2 hb3 hgv HS HX HM c0 c1 c2
        have hLj : L[j]? = some y := by
          have h1 := congrArg (fun l => l[0]?) HD.out
          simp only [List.getElem?_drop, Nat.add_zero] at h1
          rw [← h1]; exact HY.out
        have HLJ := Lib.hid hLj
        clear hLj
        cases hq : (y.s == x.s) with
        | true =>
          go_wp2_with fail
          go_roundw
          case rel =>
            refine ⟨i, j + 1, L', rfl, by simp, by omega, by omega, hlen, ?_, ?_, HS2.out, HX2.out, HM2.out⟩
            · rw [List.take_add_one, HLJ.out, List.filter_append, HT.out]
              simp only [Option.toList_some, List.filter_cons, List.filter_nil, bne, hq, Bool.not_true]
              simp
            · rw [← List.drop_drop, ← List.drop_drop, HD.out]
          case measure => simp [intOf] <;> omega
        | false =>
          have v0 := HV.out.cell 0
          have v1 := HV.out.cell 1
          have v2 := HV.out.cell 2
          have vl := HV.out.lt
          simp only [List.getElem?_toArray, List.getElem?_cons_zero, List.getElem?_cons_succ] at v0 v1 v2
          obtain ⟨u, hu⟩ : ∃ u, L'[i]? = some u := ⟨_, List.getElem?_eq_getElem (by omega)⟩
          obtain ⟨g', hg', -, -, -, hgl3, hc⟩ := (HS2.out).cells due_len hu
          obtain rfl : g = g' := by simpa using hg'
          have c0 := hc 0 (by omega)
          have c1 := hc 1 (by omega)
          have c2 := hc 2 (by omega)
          simp only [due, List.getElem?_cons_zero, List.getElem?_cons_succ, Nat.add_zero] at c0 c1 c2
          have f0 := HS2.out.frozen (i * 3)
          have f1 := HS2.out.frozen (i * 3 + 1)
          have f2 := HS2.out.frozen (i * 3 + 2)
          clear hg' hc
          go_wp2_with fail
          go_roundw
          case rel =>
            refine ⟨i + 1, j + 1, L'.set i y, by simp, by simp, by omega, by omega, by rw [List.length_set]; exact hlen, ?_, ?_, HS2.out.set due_len (x := y) (by omega), ?_, ?_⟩
            · rw [List.take_add_one, List.take_add_one, HLJ.out, List.filter_append, ← HT.out, List.take_set_of_le (Nat.le_refl _), List.getElem?_set_self (by omega)]
              simp only [Option.toList_some, List.filter_cons, List.filter_nil, bne, hq, Bool.not_false, if_true]
            · rw [List.drop_set_of_lt (by omega), ← List.drop_drop, ← List.drop_drop, HD.out]
            · exact ((HX2.out.far (p := ⟨g, _, none⟩) (Ne.symm hgx) _).far (p := ⟨g, _, none⟩) (Ne.symm hgx) _).far (p := ⟨g, _, none⟩) (Ne.symm hgx) _
            · exact ((HM2.out.setCell ⟨g, _, none⟩ _ (fun _ => rfl)).setCell ⟨g, _, none⟩ _ (fun _ => rfl)).setCell ⟨g, _, none⟩ _ (fun _ => rfl)
          case measure => simp [intOf] <;> omega
      · have hltz : ¬ (j : Int) < (L.length : Int) := by omega
        have hjl : j = L.length := by omega
        have hci : ¬ c = i := by omega
        obtain ⟨vs, hclr⟩ := hs.clear (P := Try.prog) slT infoD (by rfl) (by kernel_rfl) i (c - i) (by omega) 0
        rw [hlen] at hclr
        clear hs hx hm
        go_wp2_with fail
        go_ret
        have hfin : L.filter (fun y => y.s != x.s) = L'.take i := by rw [HT.out, hjl, List.take_length]
        refine ⟨_, rfl, ?_, rfl, (HM.out.trans (Mod.setCells (M := fun b => b = g) rfl vs _ _)).mono (fun b _ hb => by rw [hb]; rfl)⟩
        rw [hfin]
        exact (HS.out.take due_len (by omega)).past vs (by rw [List.length_take]; exact Nat.mul_le_mul_right _ (by omega))
end Wi

namespace Ws
theorem slT : Try.prog.underlying 62 = some (.slice 61) := by kernel_rfl
set_option maxHeartbeats 1000000 in
theorem del_any (bx : Nat) (x : D) (v : Value) (B : Nat) (L : List D) (w : World) (h : At w bx 61 #[.string (x.k), .int .i64 (x.t : Nat), .int .i64 (x.s : Nat)])
    (hs : Sl 3 due 61 w B v L) (hbig : L.length ≤ 1073741824) (hne : v.ownBlock ≠ some bx) :
    Calls Try.prog 23 #[v, .func (.func 24) #[] #[.pointer (some ⟨bx, 0, none⟩)]] w fun e w' =>
      ∃ v', e = .returned v' ∧ Sl 3 due 61 w' B v' (L.filter fun y => y.s != x.s) ∧ v'.ownBlock = v.ownBlock ∧ Mod (fun b => v.ownBlock = some b) w w' := by
  have H := Lib.hid h
  have HS := Lib.hid hs
  obtain ⟨a, c, rfl⟩ := hs.form
  have hl := h.lt
  clear h hs
  go_enter Try.func23, Try.ntmps23
  go_wp2_with fail
  refine (idx_any bx x a L.length c B L w H.out HS.out hbig).mono ?_
  rintro e w1 ⟨hb, hcase⟩
  have HB := Lib.hid hb
  clear hb
  rcases hcase with ⟨rfl, hall⟩ | ⟨i, y, rfl, hy, hys, hno⟩
  · have HA := Lib.hid (List.filter_eq_self.2 (fun z hz => by simpa using hall z hz) : L.filter (fun y => y.s != x.s) = L)
    clear hall
    go_wp2_with fail
    go_ret
    refine ⟨_, rfl, ?_, rfl, Mod.of_below HB.out⟩
    rw [HA.out]
    exact HS.out.below HB.out
  · have hi : i < L.length := (List.getElem?_eq_some_iff.1 hy).1
    obtain ⟨g, rfl, -, hnc, hBg, hgl, -⟩ := (HS.out).cells due_len hy
    have HY := Lib.hid hy
    have HYS := Lib.hid hys
    have HNO := Lib.hid hno
    clear hy hys hno
    have hgx : g ≠ bx := fun h => hne (by rw [h]; rfl)
    have hd : ((i : Int) == -1) = false := by rw [beq_eq_false_iff_ne]; omega
    have hx1 : IntKind.i64.wrap ((i : Int) + 1) = ((i + 1 : Nat) : Int) := by rw [IntKind.wrap_i64]; omega
    go_wp2_with fail
    go_loopw [5, 6, 7] (fun s5 s6 _ wr => ∃ (i j : Nat) (L' : List D), s5 = .int .i64 i ∧ s6 = .int .i64 j ∧ i < j ∧ j ≤ L.length ∧ L'.length = L.length ∧ L'.take i = (L.take j).filter (fun y => y.s != x.s) ∧ L'.drop j = L.drop j ∧ Sl 3 due 61 wr B (.slice (some ⟨g, 0, none⟩) L.length c) L' ∧ At wr bx 61 #[.string (x.k), .int .i64 (x.t : Nat), .int .i64 (x.s : Nat)] ∧ Mod (fun b => b = g) w wr) (fun _ s6 _ _ => L.length - (intOf s6).toNat)
    case atStart =>
      refine ⟨i, i + 1, L, rfl, by simp, by omega, by omega, rfl, ?_, rfl, HS.out.below HB.out, H.out.below HB.out hl, Mod.of_below HB.out⟩
      rw [List.take_add_one, HY.out, List.filter_append, List.filter_eq_self.2 (fun z hz => by simpa using HNO.out z hz)]
      simp [HYS.out]
    case round =>
      clear HS H HB HY HYS HNO hi
      obtain ⟨i, j, L', rfl, rfl, hij, hj, hlen, htk, hdr, hs, hx, hm⟩ := hrel
      have HS := Lib.hid hs
      have HT := Lib.hid htk
      have HD := Lib.hid hdr
      have HX := Lib.hid hx
      have HM := Lib.hid hm
      clear htk hdr
      by_cases hlt : j < L.length
      · have hltz : (j : Int) < (L.length : Int) := by omega
        obtain ⟨y, hy⟩ : ∃ y, L'[j]? = some y := ⟨_, List.getElem?_eq_getElem (by omega)⟩
        obtain ⟨g', hg', -, -, -, hgl2, hc⟩ := hs.cells due_len hy
        obtain rfl : g = g' := by simpa using hg'
        have c0 := hc 0 (by omega)
        have c1 := hc 1 (by omega)
        have c2 := hc 2 (by omega)
        simp only [due, List.getElem?_cons_zero, List.getElem?_cons_succ, Nat.add_zero] at c0 c1 c2
        have HY := Lib.hid hy
        clear hg' hc hs hx hm hy
        go_wp2_with fail
        refine (clo_any bx x y _ (HX.out.alloc _)).mono ?_
        rintro e w2 ⟨rfl, hb2⟩
        obtain ⟨gv, hgv⟩ : ∃ gv, gv = wr.heap.size := ⟨_, rfl⟩
        rw [← hgv]
        have HV := Lib.hid ((at_new wr 61 #[.string (y.k), .int .i64 (y.t : Nat), .int .i64 (y.s : Nat)] gv hgv).below hb2 (by rw [hgv]; simp))
        have hb3 : Below wr.heap.size wr w2 := step_below ((Below.refl _ _).alloc (Nat.le_refl _) _) hb2
        have HS2 := Lib.hid (HS.out.below hb3)
        have HX2 := Lib.hid (HX.out.below hb3 HX.out.lt)
        have HM2 := Lib.hid (HM.out.trans (Mod.of_below hb3))
        clear hb2 hb3 hgv HS HX HM c0 c1 c2
        have hLj : L[j]? = some y := by
          have h1 := congrArg (fun l => l[0]?) HD.out
          simp only [List.getElem?_drop, Nat.add_zero] at h1
          rw [← h1]; exact HY.out
        have HLJ := Lib.hid hLj
        clear hLj
        cases hq : (y.s == x.s) with
        | true =>
          go_wp2_with fail
          go_roundw
          case rel =>
            refine ⟨i, j + 1, L', rfl, by simp, by omega, by omega, hlen, ?_, ?_, HS2.out, HX2.out, HM2.out⟩
            · rw [List.take_add_one, HLJ.out, List.filter_append, HT.out]
              simp only [Option.toList_some, List.filter_cons, List.filter_nil, bne, hq, Bool.not_true]
              simp
            · rw [← List.drop_drop, ← List.drop_drop, HD.out]
          case measure => simp [intOf] <;> omega
        | false =>
          have v0 := HV.out.cell 0
          have v1 := HV.out.cell 1
          have v2 := HV.out.cell 2
          have vl := HV.out.lt
          simp only [List.getElem?_toArray, List.getElem?_cons_zero, List.getElem?_cons_succ] at v0 v1 v2
          obtain ⟨u, hu⟩ : ∃ u, L'[i]? = some u := ⟨_, List.getElem?_eq_getElem (by omega)⟩
          obtain ⟨g', hg', -, -, -, hgl3, hc⟩ := (HS2.out).cells due_len hu
          obtain rfl : g = g' := by simpa using hg'
          have c0 := hc 0 (by omega)
          have c1 := hc 1 (by omega)
          have c2 := hc 2 (by omega)
          simp only [due, List.getElem?_cons_zero, List.getElem?_cons_succ, Nat.add_zero] at c0 c1 c2
          have f0 := HS2.out.frozen (i * 3)
          have f1 := HS2.out.frozen (i * 3 + 1)
          have f2 := HS2.out.frozen (i * 3 + 2)
          clear hg' hc
          go_wp2_with fail
          go_roundw
          case rel =>
            refine ⟨i + 1, j + 1, L'.set i y, by simp, by simp, by omega, by omega, by rw [List.length_set]; exact hlen, ?_, ?_, HS2.out.set due_len (x := y) (by omega), ?_, ?_⟩
            · rw [List.take_add_one, List.take_add_one, HLJ.out, List.filter_append, ← HT.out, List.take_set_of_le (Nat.le_refl _), List.getElem?_set_self (by omega)]
              simp only [Option.toList_some, List.filter_cons, List.filter_nil, bne, hq, Bool.not_false, if_true]
            · rw [List.drop_set_of_lt (by omega), ← List.drop_drop, ← List.drop_drop, HD.out]
            · exact ((HX2.out.far (p := ⟨g, _, none⟩) (Ne.symm hgx) _).far (p := ⟨g, _, none⟩) (Ne.symm hgx) _).far (p := ⟨g, _, none⟩) (Ne.symm hgx) _
            · exact ((HM2.out.setCell ⟨g, _, none⟩ _ (fun _ => rfl)).setCell ⟨g, _, none⟩ _ (fun _ => rfl)).setCell ⟨g, _, none⟩ _ (fun _ => rfl)
          case measure => simp [intOf] <;> omega
      · have hltz : ¬ (j : Int) < (L.length : Int) := by omega
        have hjl : j = L.length := by omega
        have hci : ¬ c = i := by omega
        obtain ⟨vs, hclr⟩ := hs.clear (P := Try.prog) slT infoD (by rfl) (by kernel_rfl) i (c - i) (by omega) 0
        rw [hlen] at hclr
        clear hs hx hm
        go_wp2_with fail
        go_ret
        have hfin : L.filter (fun y => y.s != x.s) = L'.take i := by rw [HT.out, hjl, List.take_length]
        refine ⟨_, rfl, ?_, rfl, (HM.out.trans (Mod.setCells (M := fun b => b = g) rfl vs _ _)).mono (fun b _ hb => by rw [hb]; rfl)⟩
        rw [hfin]
        exact (HS.out.take due_len (by omega)).past vs (by rw [List.length_take]; exact Nat.mul_le_mul_right _ (by omega))
end Ws
end Go.Proofs.Ytaadkehopfjclaa
