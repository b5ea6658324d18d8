/-
  bloom: Clear, Count.
-/
import Derived.Test.YtjjadakjkkmjgaaFBloomD
namespace Go.Proofs.Ytjjadakjkkmjgaa
open Go.RowKit
theorem zcellsU (n : Nat) : Builtin.zeroCells #[.int .u64 0] n = wd (List.replicate n 0) := by
  have := made_words n
  unfold madeCells at this
  unfold Builtin.zeroCells
  simpa using this
theorem run_clear (ty : TypeId) (gw n : Nat) (ws : List Nat) (w : World) (h : At w gw 86 (wd ws)) (hl : ws.length = n) (hn : 1 ≤ n) :
    (Builtin.clear_ #[90] ty #[.slice (some ⟨gw, 0, none⟩) n n]).run Try.prog w = .ok (.tuple #[]) (w.setCells gw 0 (wd (List.replicate n 0)).toList) := by
  have hst := store_at (P := Try.prog) w gw 0 86 (wd ws) (wd (List.replicate n 0)) h (by rw [wd_size, wd_size, List.length_replicate]; omega) (by
    rw [Array.all_eq_true']
    intro v hv
    simp only [wd, List.mem_toArray, List.mem_map] at hv
    obtain ⟨x, _, rfl⟩ := hv
    rfl)
  obtain ⟨m, rfl⟩ : ∃ m, n = m + 1 := ⟨n - 1, by omega⟩
  have hz := zcellsU (m + 1)
  have he : (Value.int .u64 0).cells = #[Value.int .u64 0] := rfl
  rw [← hz] at hst ⊢
  simp [Builtin.clear_, run_underlying Try.underlying90, he, hst]
set_option maxRecDepth 100000 in
set_option maxHeartbeats 4000000 in
theorem clear_any (gb gw gf : Nat) (N n : Nat) (ws : List Nat) (w : World) (hB : At w gb 92 (bcs gf N gw n)) (hW : At w gw 86 (wd ws)) (hl : ws.length = n) (hn : 1 ≤ n) :
    Calls Try.prog 31 #[.pointer (some ⟨gb, 0, none⟩)] w fun e w' => (∃ v, e = .returned v) ∧ At w' gw 86 (wd (List.replicate n 0)) ∧ Mod (fun i => i = gw) w w' := by
  have B := Lib.hid hB
  have hcl := fun ty => run_clear ty gw n ws w hW hl hn
  have hA := At.setCells (wd (List.replicate n 0)).toList 0 _ _ hW
  rw [splice_all _ _ (by rw [wd_size, wd_size, List.length_replicate, hl])] at hA
  have HA := Lib.hid hA
  clear hB hA hl hW
  go_enter Try.func31, Try.ntmps31
  have HB := Lib.hid (Below.refl w.heap.size w)
  
  have r_B := B.out.row
  have o_B := B.out.open
  have l_B := B.out.lt
  have c_B := B.out.cell
  have z_B := B.out.frozen
  go_wp2_with fail
  clear r_B o_B l_B c_B z_B
  go_end0
  exact ⟨⟨_, rfl⟩, HA.out, Mod.setCells (M := fun i => i = gw) rfl _ _ _⟩
/-- What bits.OnesCount64 reckons. -/
def m0 : Nat := 6148914691236517205
def m1 : Nat := 3689348814741910323
def m2 : Nat := 1085102592571150095
def sw1 (x : Nat) : Nat := (x / 2 &&& m0) + (x &&& m0)
def sw2 (x : Nat) : Nat := (x / 4 &&& m1) + (x &&& m1)
def sw3 (x : Nat) : Nat := (x / 16 + x) % 18446744073709551616 &&& m2
def sw4 (x : Nat) : Nat := (x + x / 256) % 18446744073709551616
def sw5 (x : Nat) : Nat := (x + x / 65536) % 18446744073709551616
def sw6 (x : Nat) : Nat := (x + x / 4294967296) % 18446744073709551616
def swar (x : Nat) : Nat := sw6 (sw5 (sw4 (sw3 (sw2 (sw1 x))))) % 128
set_option maxRecDepth 100000 in
set_option maxHeartbeats 4000000 in
theorem and127 (y : Nat) : bits .and .i64 (wrap64 (y : Int)) 127 = ((y % 128 : Nat) : Int) := by
  have e : BitVec.ofInt 64 (wrap64 (y : Int)) = BitVec.ofNat 64 y := by
    apply BitVec.eq_of_toNat_eq
    rw [BitVec.toNat_ofInt, BitVec.toNat_ofNat]
    unfold wrap64
    omega
  show IntKind.i64.wrap ((BitVec.ofInt 64 (wrap64 (y : Int)) &&& BitVec.ofInt 64 127).toNat : Int) = _
  rw [e, BitVec.toNat_and, BitVec.toNat_ofNat, show (BitVec.ofInt 64 127).toNat = 2 ^ 7 - 1 from rfl, Nat.and_two_pow_sub_one_eq_mod, IntKind.wrap_i64]
  omega
theorem ones_any (x : Nat) (hx : x < 18446744073709551616) (w : World) : Calls Try.prog 56 #[.int .u64 x] w fun e w' => e = .returned (.int .i64 (swar x : Nat)) ∧ w' = w := by
  have HS := Lib.hid (show swar x = sw6 (sw5 (sw4 (sw3 (sw2 (sw1 x))))) % 128 from rfl)
  have lt : ∀ a b : Nat, a &&& b ≤ b := fun a b => Nat.and_le_right
  have u2 : ∀ y : Nat, ((y / 2 : Nat) : Int) = (y : Int) / 2 := fun y => by omega
  have u4 : ∀ y : Nat, ((y / 4 : Nat) : Int) = (y : Int) / 4 := fun y => by omega
  obtain ⟨a1, ha1⟩ : ∃ a, a = x / 2 &&& m0 := ⟨_, rfl⟩
  obtain ⟨b1, hb1⟩ : ∃ a, a = x &&& m0 := ⟨_, rfl⟩
  have f1 : bits .and .u64 ((x : Int) / 2) 6148914691236517205 = (a1 : Int) := by rw [← u2, ha1]; exact u64_and_nat (x / 2) m0 (by omega) (by decide)
  have f2 : bits .and .u64 (x : Int) 6148914691236517205 = (b1 : Int) := by rw [hb1]; exact u64_and_nat x m0 hx (by decide)
  have l1 : a1 ≤ 6148914691236517205 := by rw [ha1]; exact lt _ _
  have l2 : b1 ≤ 6148914691236517205 := by rw [hb1]; exact lt _ _
  obtain ⟨y1, hy1⟩ : ∃ y, y = sw1 x := ⟨_, rfl⟩
  have e1 : y1 = a1 + b1 := by rw [hy1, ha1, hb1]; rfl
  have f3 : IntKind.u64.wrap ((a1 : Int) + (b1 : Int)) = (y1 : Int) := by rw [IntKind.wrap_u64]; omega
  have ly1 : y1 < 18446744073709551616 := by omega
  obtain ⟨a2, ha2⟩ : ∃ a, a = y1 / 4 &&& m1 := ⟨_, rfl⟩
  obtain ⟨b2, hb2⟩ : ∃ a, a = y1 &&& m1 := ⟨_, rfl⟩
  have f4 : bits .and .u64 ((y1 : Int) / 4) 3689348814741910323 = (a2 : Int) := by rw [← u4, ha2]; exact u64_and_nat (y1 / 4) m1 (by omega) (by decide)
  have f5 : bits .and .u64 (y1 : Int) 3689348814741910323 = (b2 : Int) := by rw [hb2]; exact u64_and_nat y1 m1 ly1 (by decide)
  have l3 : a2 ≤ 3689348814741910323 := by rw [ha2]; exact lt _ _
  have l4 : b2 ≤ 3689348814741910323 := by rw [hb2]; exact lt _ _
  obtain ⟨y2, hy2⟩ : ∃ y, y = sw2 y1 := ⟨_, rfl⟩
  have e2 : y2 = a2 + b2 := by rw [hy2, ha2, hb2]; rfl
  have f6 : IntKind.u64.wrap ((a2 : Int) + (b2 : Int)) = (y2 : Int) := by rw [IntKind.wrap_u64]; omega
  obtain ⟨c3, hc3⟩ : ∃ y, y = (y2 / 16 + y2) % 18446744073709551616 := ⟨_, rfl⟩
  have f7 : IntKind.u64.wrap ((y2 : Int) / 16 + (y2 : Int)) = (c3 : Int) := by rw [IntKind.wrap_u64]; omega
  obtain ⟨y3, hy3⟩ : ∃ y, y = sw3 y2 := ⟨_, rfl⟩
  have f8 : bits .and .u64 (c3 : Int) 1085102592571150095 = (y3 : Int) := by rw [hy3]; unfold sw3; rw [← hc3]; exact u64_and_nat c3 m2 (by omega) (by decide)
  obtain ⟨y4, hy4⟩ : ∃ y, y = sw4 y3 := ⟨_, rfl⟩
  have f9 : IntKind.u64.wrap ((y3 : Int) + (y3 : Int) / 256) = (y4 : Int) := by rw [IntKind.wrap_u64, hy4]; unfold sw4; omega
  obtain ⟨y5, hy5⟩ : ∃ y, y = sw5 y4 := ⟨_, rfl⟩
  have f10 : IntKind.u64.wrap ((y4 : Int) + (y4 : Int) / 65536) = (y5 : Int) := by rw [IntKind.wrap_u64, hy5]; unfold sw5; omega
  obtain ⟨y6, hy6⟩ : ∃ y, y = sw6 y5 := ⟨_, rfl⟩
  have f11 : IntKind.u64.wrap ((y5 : Int) + (y5 : Int) / 4294967296) = (y6 : Int) := by rw [IntKind.wrap_u64, hy6]; unfold sw6; omega
  have f12 := and127 y6
  have HZ := Lib.hid (show swar x = y6 % 128 by rw [HS.out, ← hy1, ← hy2, ← hy3, ← hy4, ← hy5, ← hy6])
  clear lt u2 u4 ha1 hb1 hy1 e1 ha2 hb2 hy2 e2 hc3 hy3 hy4 hy5 hy6 HS
  rw [HZ.out]
  go_enter Try.func56, Try.ntmps56
  go_wp2_with fail
  go_ret
  exact ⟨rfl, rfl⟩
/-- How many bits are set, word by word. -/
def cntW (ws : List Nat) : Nat := (ws.map swar).sum
theorem cntW_take (ws : List Nat) (t : Nat) (h : t < ws.length) : cntW (ws.take (t + 1)) = cntW (ws.take t) + swar (ws.getD t 0) := by
  unfold cntW
  rw [List.take_succ_eq_append_getElem h, List.map_append, List.sum_append]
  simp [List.getD_eq_getElem?_getD, List.getElem?_eq_getElem h]
theorem swar_lt (x : Nat) : swar x < 128 := Nat.mod_lt _ (by omega)
theorem cntW_le : ∀ ws : List Nat, cntW ws ≤ 128 * ws.length
  | [] => by simp [cntW]
  | x :: r => by
    have := cntW_le r
    have := swar_lt x
    unfold cntW at *
    simp only [List.map_cons, List.sum_cons, List.length_cons]
    omega
set_option maxRecDepth 100000 in
set_option maxHeartbeats 4000000 in
theorem count_any (gb gw gf : Nat) (N n : Nat) (ws : List Nat) (w : World) (hB : At w gb 92 (bcs gf N gw n)) (hW : At w gw 86 (wd ws)) (hl : ws.length = n) (hn : n ≤ 1024) (hx : ∀ x ∈ ws, x < 18446744073709551616) :
    Calls Try.prog 37 #[.pointer (some ⟨gb, 0, none⟩)] w fun e w' => e = .returned (.int .i64 (cntW ws : Nat)) ∧ Below w.heap.size w w' := by
  have B := Lib.hid hB
  have Wd := Lib.hid hW
  have HL := Lib.hid hl
  have HX := Lib.hid hx
  have HT := Lib.hid (cntW_take ws)
  have HLE := Lib.hid (fun t => cntW_le (ws.take t))
  clear hB hW hl hx
  go_enter Try.func37, Try.ntmps37
  have HB := Lib.hid (Below.refl w.heap.size w)
  
  
  have r_B := B.out.row
  have o_B := B.out.open
  have l_B := B.out.lt
  have c_B := B.out.cell
  have z_B := B.out.frozen
  have r_Wd := Wd.out.row
  have o_Wd := Wd.out.open
  have l_Wd := Wd.out.lt
  have c_Wd := Wd.out.cell
  have z_Wd := Wd.out.frozen
  go_wp2_with fail
  clear r_B o_B l_B c_B z_B r_Wd o_Wd l_Wd c_Wd z_Wd
  go_loopw [2, 4, 12] (fun c_ _ i wr => ∃ t : Nat, t ≤ n ∧ i = .int .i64 t ∧ c_ = .int .i64 (cntW (ws.take t) : Nat) ∧ At wr gb 92 (bcs gf N gw n) ∧ At wr gw 86 (wd ws) ∧ Below w.heap.size w wr) (fun _ _ i _ => n - (intOf i).toNat)
  case atStart => exact ⟨0, Nat.zero_le _, rfl, rfl, B.out, Wd.out, HB.out⟩
  case round =>
    obtain ⟨t, ht, rfl, rfl, hB_, hWd_, hBel_⟩ := hrel
    have B := Lib.hid hB_
    have Wd := Lib.hid hWd_
    have HB := Lib.hid hBel_
    clear hB_ hWd_ hBel_
    by_cases hlt : t < n
    · have hwd := wd_get ws t (by rw [HL.out]; exact hlt)
      obtain ⟨x, hxx⟩ : ∃ x, x = ws.getD t 0 := ⟨_, rfl⟩
      have hx64 : x < 18446744073709551616 := by rw [hxx]; exact getD_lt ws t HX.out
      have hT := HT.out t (by rw [HL.out]; exact hlt)
      have hle := HLE.out t
      rw [List.length_take] at hle
      rw [← hxx] at hwd hT
      obtain ⟨C, hC⟩ : ∃ C, C = cntW (ws.take t) := ⟨_, rfl⟩
      rw [← hC] at hT hle
      have hs := swar_lt x
      have HTT := Lib.hid hT
      have hC4 : C ≤ 131072 := by omega
      clear hxx hT hle
      rw [← hC]
      clear hC
      have r_B := B.out.row
      have o_B := B.out.open
      have l_B := B.out.lt
      have c_B := B.out.cell
      have z_B := B.out.frozen
      have r_Wd := Wd.out.row
      have o_Wd := Wd.out.open
      have l_Wd := Wd.out.lt
      have c_Wd := Wd.out.cell
      have z_Wd := Wd.out.frozen
      go_wp2_with fail
      clear r_B o_B l_B c_B z_B r_Wd o_Wd l_Wd c_Wd z_Wd
      refine (ones_any x hx64 _).mono ?_
      rintro e w_ ⟨rfl, hw_⟩
      obtain rfl := hw_.symm
      clear hw_
      go_wp2_with fail
      go_roundw
      case rel => exact ⟨t + 1, by omega, by go_num, by rw [HTT.out]; go_num, B.out, Wd.out, HB.out⟩
      case measure => simp [intOf]; omega
    · obtain rfl : n = t := by omega
      have TK := Lib.hid (List.take_of_length_le (Nat.le_of_eq HL.out))
      go_wp2_with fail
      go_ret
      exact ⟨by rw [TK.out]; rfl, HB.out⟩
set_option maxRecDepth 100000 in
theorem count_nil (w : World) : Calls Try.prog 37 #[.pointer none] w fun e w' => e = .returned (.int .i64 0) ∧ w' = w := by
  go_enter Try.func37, Try.ntmps37
  go_wp2_with fail
  go_ret
  exact ⟨rfl, rfl⟩
end Go.Proofs.Ytjjadakjkkmjgaa
