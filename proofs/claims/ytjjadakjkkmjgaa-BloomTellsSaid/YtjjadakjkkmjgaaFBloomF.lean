/-
  bloom: Ones, an iterator.
-/
import Derived.Test.YtjjadakjkkmjgaaFBloomE
namespace Go.Proofs.Ytjjadakjkkmjgaa
open Go.RowKit Go.Shelf
attribute [local go_sem] Oper.semAt_some
/-- The bits that are set, of the first so many. -/
def onesTo (ws : List Nat) (i : Nat) : List Nat := (List.range i).filter (bt ws)
theorem onesTo_yes (ws : List Nat) (i : Nat) (h : bt ws i = true) : onesTo ws (i + 1) = onesTo ws i ++ [i] := by
  unfold onesTo; rw [List.range_succ, List.filter_append]; simp [h]
theorem onesTo_no (ws : List Nat) (i : Nat) (h : bt ws i = false) : onesTo ws (i + 1) = onesTo ws i := by
  unfold onesTo; rw [List.range_succ, List.filter_append]; simp [h]
theorem onesTo_length (ws : List Nat) (i : Nat) : (onesTo ws i).length ≤ i := by
  unfold onesTo; exact Nat.le_trans (List.length_filter_le _ _) (by simp)
def onEnc (i : Nat) : Array Value := #[.int .i64 i]
def KpO (n₀ B1 : Nat) (A B : World) : Prop := Below n₀ A B ∧ B.heap[B1]? = A.heap[B1]?
theorem KpO.t {n₀ B1 : Nat} {A B C : World} (h : KpO n₀ B1 A B) (k : KpO n₀ B1 B C) : KpO n₀ B1 A C := ⟨h.1.trans k.1, k.2.trans h.2⟩
theorem KpO.b {n₀ B1 : Nat} {w : World} (hn : n₀ ≤ w.heap.size) (h1 : B1 < w.heap.size) (W : World) (l : Nat) (o o' : Obj) (hl : w.heap.size ≤ l) (h : W.heap[l]? = some o) (q1 : o.isCells = false) (q2 : o.isWalk = false) : KpO n₀ B1 W (W.putObj l o') :=
  ⟨belowK_b hn W l o o' hl h q1 q2, World.putObj_heap_other (by omega)⟩
theorem KpO.refl (n₀ B1 : Nat) (A : World) : KpO n₀ B1 A A := ⟨Below.refl _ _, rfl⟩
set_option maxRecDepth 100000 in
set_option maxHeartbeats 4000000 in
theorem ones1_any (m l' B1 n₀ gb gw gf N n : Nat) (ws : List Nat) (hN2 : N ≤ 65536) (hn : n = nw N) (hl : ws.length = n) (hx : ∀ x ∈ ws, x < 18446744073709551616) (hgb : gb < n₀) (hgw : gw < n₀) (J Jx : List Nat → World → Prop) (W : World)
    (_ : AbidesFrom W.heap.size J)
    (hY : ∀ pre x W1, J pre W1 → pre.length < 65536 → YieldAt Fence.wide (m - 1) Try.prog l' (onEnc x) W1 fun e W' =>
      (e = .returned (.bool true) ∧ J (pre ++ [x]) W' ∧ KpO n₀ B1 W1 W') ∨ (e = .returned (.bool false) ∧ Jx (pre ++ [x]) W'))
    (hBs : At W B1 61 #[.pointer (some ⟨gb, 0, none⟩)]) (hB : At W gb 92 (bcs gf N gw n)) (hW : At W gw 86 (wd ws)) (h0 : J [] W) :
    CallsIn Fence.wide m Try.prog 66 #[.func (.yield l') #[] #[], .pointer (some ⟨B1, 0, none⟩)] W fun e W' => (∃ v, e = .returned v) ∧
      ((∃ ys, ys = onesTo ws N ∧ J ys W') ∨ (∃ pre, (∃ q, q ≤ N ∧ pre = onesTo ws q) ∧ Jx pre W')) := by
  have HNn : Hid (N ≤ n * 64 ∧ n ≤ 1024) := Lib.hid (by rw [hn]; unfold nw; omega)
  have HB := Lib.hid hB
  have HW := Lib.hid hW
  have HS := Lib.hid hBs
  have HY := Lib.hid hY
  have HX := Lib.hid hx
  have HL := Lib.hid hl
  have c1 := hBs.cell 0
  have c2 := hB.cell 1
  simp only [List.getElem?_toArray, List.getElem?_cons_zero] at c1
  rw [bcs_1] at c2
  clear hB hW hBs hY hx hn hl
  refine callsIn_of_wp Try.func66 rfl trivial ?_ rfl
  simp only [Try.ntmps66, List.size_toArray, List.length_cons, List.length_nil, Nat.reduceAdd, Nat.reduceSub, Array.replicate_succ, Array.replicate_zero, List.push_toArray, List.append_toArray, List.nil_append, List.cons_append]
  gi_wp2
  gi_loopw [3, 10] (fun _ i wr => ∃ s : Nat, s ≤ N ∧ i = .int .i64 s ∧ J (onesTo ws s) wr ∧ KpO n₀ B1 W wr) (fun _ i wr => N - (intOf i).toNat)
  case atStart => exact ⟨0, Nat.zero_le _, rfl, h0, KpO.refl _ _ _⟩
  case round =>
    obtain ⟨s, hs, rfl, hj, hk⟩ := hrel
    have HJJ := Lib.hid hj
    have HKP := Lib.hid hk
    clear hj hk c1 c2
    have hAs : At wr B1 61 #[.pointer (some ⟨gb, 0, none⟩)] := HKP.out.2.trans HS.out
    have HBr := Lib.hid (HB.out.below HKP.out.1 hgb)
    have HWr := Lib.hid (HW.out.below HKP.out.1 hgw)
    have c1 := hAs.cell 0
    simp only [List.getElem?_toArray, List.getElem?_cons_zero] at c1
    clear hAs
    by_cases hlt : s < N
    · have hll : (onesTo ws s).length < 65536 := Nat.lt_of_le_of_lt (onesTo_length ws s) (by omega)
      cases hb : bt ws s
      · have HN := Lib.hid (onesTo_no ws s hb)
        clear hll
        gi_wp2
        refine ⟨trivial, fun h => (by simp [Fence.wide] at h), (callsIn_wide.2 (set_any gb gw gf N n s ws _ HBr.out HWr.out HNn.out.2 HL.out (by have := HNn.out.1; omega) HX.out)).mono ?_⟩
        rintro e w1 ⟨rfl, hw⟩
        obtain rfl := hw.symm
        rw [hb]
        clear hw
        gi_wp2
        refine ⟨fun _ h => (by cases h), ?_⟩
        gi_wp2
        go_roundw
        case rel => exact ⟨s + 1, by omega, by go_num, by rw [HN.out]; exact HJJ.out, HKP.out⟩
        case measure => simp [intOf]; omega
      · have HN := Lib.hid (onesTo_yes ws s hb)
        obtain ⟨fn, tmps, assign, body, hy, hR⟩ := HY.out _ s _ HJJ.out hll
        simp only [onEnc] at hy
        have HR := Lib.hid hR
        clear hR hll
        gi_wp2
        refine ⟨trivial, fun h => (by simp [Fence.wide] at h), (callsIn_wide.2 (set_any gb gw gf N n s ws _ HBr.out HWr.out HNn.out.2 HL.out (by have := HNn.out.1; omega) HX.out)).mono ?_⟩
        rintro e w1 ⟨rfl, hw⟩
        obtain rfl := hw.symm
        rw [hb]
        clear hw
        gi_wp2
        refine ⟨fun h => (by simp [Fence.wide] at h), HR.out.mono ?_⟩
        rintro e W3 (⟨rfl, hJ3, hk3⟩ | ⟨rfl, hJx3⟩)
        · have HJ3 := Lib.hid hJ3
          have HK3 := Lib.hid hk3
          clear hJ3 hk3
          gi_wp2
          go_roundw
          case rel => exact ⟨s + 1, by omega, by go_num, by rw [HN.out]; exact HJ3.out, HKP.out.t HK3.out⟩
          case measure => simp [intOf]; omega
        · have HJ3 := Lib.hid hJx3
          clear hJx3
          gi_wp2
          refine bodyPost_ret (results_none rfl _ _ _) rfl ?_
          exact ⟨⟨_, rfl⟩, .inr ⟨_, ⟨s + 1, by omega, HN.out.symm⟩, HJ3.out⟩⟩
    · obtain rfl : N = s := by omega
      gi_wp2
      go_end0
      exact ⟨⟨_, rfl⟩, .inl ⟨_, rfl, HJJ.out⟩⟩
theorem onesv_any (p : Option Addr) (w : World) :
    Calls Try.prog 55 #[.pointer p] w fun e w' => e = .returned (.func (.func 66) #[] #[.pointer (some ⟨w.heap.size, 0, none⟩)]) ∧ w' = w.alloc (.cells #[.pointer p] 61) := by
  go_enter Try.func55, Try.ntmps55
  go_wp2_with fail
  go_ret
  exact ⟨rfl, rfl⟩
theorem ones_stops (m B1 n₀ gb gw gf N n : Nat) (ws : List Nat) (hN2 : N ≤ 65536) (hn : n = nw N) (hl : ws.length = n) (hx : ∀ x ∈ ws, x < 18446744073709551616) (hgb : gb < n₀) (hgw : gw < n₀) (w : World) (hn0 : n₀ ≤ w.heap.size) (hB1 : B1 < w.heap.size)
    (hBs : At w B1 61 #[.pointer (some ⟨gb, 0, none⟩)]) (hB : At w gb 92 (bcs gf N gw n)) (hW : At w gw 86 (wd ws)) :
    SeqStopsK Fence.wide m Try.prog 66 #[.pointer (some ⟨B1, 0, none⟩)] onEnc (KpO n₀ B1) (fun ys => ys = onesTo ws N) (fun pre => ∃ q, q ≤ N ∧ pre = onesTo ws q) 65536 w := fun l' J Jx W hWW hJ _ hY h0 =>
  ones1_any m l' B1 n₀ gb gw gf N n ws hN2 hn hl hx hgb hgw J Jx W hJ hY (hBs.below hWW hB1) (hB.below hWW (by omega)) (hW.below hWW (by omega)) h0
end Go.Proofs.Ytjjadakjkkmjgaa
