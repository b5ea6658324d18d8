/-
  Texts in one, each behind those that it needs: FamConfig, FamKeys, FamNils, FamAwake, FamRows.
-/
import Derived.Test.YtgjecemmejaieaaBag
import Derived.IntWalk
/-
  bazaaralike.Config: a small configuration that may be, of some numbers.
-/
namespace Go.Proofs.Ytgjecemmejaieaa
open Go.RowKit
def cfgOf (x0 x1 x2 x3 x4 x5 x6 x7 x8 x9 x10 x11 x12 : Nat) (h : x12 < 4294967296) : Cf := ⟨1 + (x0 : Int), 2 * 2 ^ x1, 1 + (x2 : Int), 8 * 2 ^ x3, 1 + (x4 : Int), 1 + (x5 : Int), 2 + (x6 : Int), 1 + (x7 : Int), 1 + (x8 : Int), 1 + (x9 : Int), 1 + (x10 : Int), 1 + (x11 : Int), false, adr0 false, adr0 true, x12, h⟩
def config (l : List Int) : Cf := cfgOf (atOf l 0 4).toNat (atOf l 1 6).toNat (atOf l 2 16).toNat (atOf l 3 6).toNat (atOf l 4 4).toNat (atOf l 5 16).toNat (atOf l 6 5).toNat (atOf l 7 12).toNat (atOf l 8 20).toNat (atOf l 9 12).toNat (atOf l 10 5).toNat (atOf l 11 3).toNat (atOf l 12 1000).toNat (by have := atOf_bounds l 12 1000 (by omega); omega)
def cfgC (x0 x1 x2 x3 x4 x5 x6 x7 x8 x9 x10 x11 x12 : Nat) : Array Value := if h : x12 < 4294967296 then cc (cfgOf x0 x1 x2 x3 x4 x5 x6 x7 x8 x9 x10 x11 x12 h) else #[]
theorem cfgC_eq (x0 x1 x2 x3 x4 x5 x6 x7 x8 x9 x10 x11 x12 : Nat) (h : x12 < 4294967296) : cfgC x0 x1 x2 x3 x4 x5 x6 x7 x8 x9 x10 x11 x12 = cc (cfgOf x0 x1 x2 x3 x4 x5 x6 x7 x8 x9 x10 x11 x12 h) := by unfold cfgC; rw [dif_pos h]
theorem buildCfg (x0 x1 x2 x3 x4 x5 x6 x7 x8 x9 x10 x11 x12 : Nat) (h : x12 < 4294967296) (w : World) : bldX Try.prog 33 #[(0, Value.int .i64 (1 + (x0 : Int))), (1, Value.int .i64 (2 * 2 ^ x1)), (2, Value.int .i64 (1 + (x2 : Int))), (3, Value.int .i64 (8 * 2 ^ x3)), (4, Value.int .i64 (1 + (x4 : Int))), (5, Value.int .i64 (1 + (x5 : Int))), (6, Value.int .i64 (2 + (x6 : Int))), (7, Value.int .i64 (1 + (x7 : Int))), (8, Value.int .i64 (1 + (x8 : Int))), (9, Value.int .i64 (1 + (x9 : Int))), (10, Value.int .i64 (1 + (x10 : Int))), (11, Value.int .i64 (1 + (x11 : Int))), (14, .agg #[.bool true, .int .u8 0, .int .u8 0, .int .u8 0, .int .u8 0, .int .u8 0, .int .u8 0, .int .u8 0, .int .u8 0, .int .u8 0, .int .u8 0, .int .u8 0, .int .u8 0, .int .u8 0, .int .u8 0, .int .u8 0, .int .u8 0]), (15, .int .u32 (x12 : Int))] w = .ok (.value (.agg (cfgC x0 x1 x2 x3 x4 x5 x6 x7 x8 x9 x10 x11 x12))) w :=
  bldX_of w (by rw [cfgC_eq x0 x1 x2 x3 x4 x5 x6 x7 x8 x9 x10 x11 x12 h]; kernel_rfl)
attribute [local go_sem ↓] exec_bldC
theorem shl_fact (k x : Nat) (hk : k = 2 ∨ k = 8) (hx : x < 6) : IntKind.i64.wrap ((k : Int) * 2 ^ x) = (k : Int) * 2 ^ x := by
  have : x = 0 ∨ x = 1 ∨ x = 2 ∨ x = 3 ∨ x = 4 ∨ x = 5 := by omega
  rcases hk with rfl | rfl <;> rcases this with rfl | rfl | rfl | rfl | rfl | rfl <;> decide
theorem Ints.mod {w w' : World} {M : Nat → Prop} {a : Option Addr} {n : Nat} {l : List Int} (h : Ints w a n l) (hb : Mod M w w') (hm : ∀ b o, a = some ⟨b, o, none⟩ → ¬ M b) : Ints w' a n l := by
  refine ⟨h.1, fun hn => ?_⟩
  obtain ⟨b, o, rfl, hlt, hc⟩ := h.2 hn
  exact ⟨b, o, rfl, Nat.lt_of_lt_of_le hlt hb.size, fun i hi => (hb.cell (p := ⟨b, o + i, none⟩) hlt (hm b o rfl)).trans (hc i hi)⟩
theorem Ints.drew {w : World} {a : Option Addr} {n : Nat} {l : List Int} (h : Ints w a n l) : Ints w.drew a n l := h
theorem config_eq (l : List Int) (x0 x1 x2 x3 x4 x5 x6 x7 x8 x9 x10 x11 x12 : Nat) (h12 : x12 < 4294967296) (h0' : atOf l 0 4 = x0) (h1' : atOf l 1 6 = x1) (h2' : atOf l 2 16 = x2) (h3' : atOf l 3 6 = x3) (h4' : atOf l 4 4 = x4) (h5' : atOf l 5 16 = x5) (h6' : atOf l 6 5 = x6) (h7' : atOf l 7 12 = x7) (h8' : atOf l 8 20 = x8) (h9' : atOf l 9 12 = x9) (h10' : atOf l 10 5 = x10) (h11' : atOf l 11 3 = x11) (h12' : atOf l 12 1000 = x12) : cc (config l) = cfgC x0 x1 x2 x3 x4 x5 x6 x7 x8 x9 x10 x11 x12 := by
  rw [cfgC_eq x0 x1 x2 x3 x4 x5 x6 x7 x8 x9 x10 x11 x12 h12]
  unfold config
  congr 2
  all_goals omega
set_option maxRecDepth 100000 in
set_option maxHeartbeats 8000000 in
theorem config_any (a : Option Addr) (n c : Nat) (l : List Int) (w : World) (h : Ints w a n l) (hn : n ≤ 1000000) :
    Calls Try.prog 8 #[.slice a n c] w fun e w' => e = .returned (.agg (cc (config l))) ∧ Below w.heap.size w w' := by
  obtain ⟨x0, hx0⟩ : ∃ x : Nat, atOf l 0 4 = x := ⟨(atOf l 0 4).toNat, by have := atOf_bounds l 0 4 (by omega); omega⟩
  have hb0 : x0 < 4 := by have := atOf_bounds l 0 4 (by omega); omega
  obtain ⟨x1, hx1⟩ : ∃ x : Nat, atOf l 1 6 = x := ⟨(atOf l 1 6).toNat, by have := atOf_bounds l 1 6 (by omega); omega⟩
  have hb1 : x1 < 6 := by have := atOf_bounds l 1 6 (by omega); omega
  obtain ⟨x2, hx2⟩ : ∃ x : Nat, atOf l 2 16 = x := ⟨(atOf l 2 16).toNat, by have := atOf_bounds l 2 16 (by omega); omega⟩
  have hb2 : x2 < 16 := by have := atOf_bounds l 2 16 (by omega); omega
  obtain ⟨x3, hx3⟩ : ∃ x : Nat, atOf l 3 6 = x := ⟨(atOf l 3 6).toNat, by have := atOf_bounds l 3 6 (by omega); omega⟩
  have hb3 : x3 < 6 := by have := atOf_bounds l 3 6 (by omega); omega
  obtain ⟨x4, hx4⟩ : ∃ x : Nat, atOf l 4 4 = x := ⟨(atOf l 4 4).toNat, by have := atOf_bounds l 4 4 (by omega); omega⟩
  have hb4 : x4 < 4 := by have := atOf_bounds l 4 4 (by omega); omega
  obtain ⟨x5, hx5⟩ : ∃ x : Nat, atOf l 5 16 = x := ⟨(atOf l 5 16).toNat, by have := atOf_bounds l 5 16 (by omega); omega⟩
  have hb5 : x5 < 16 := by have := atOf_bounds l 5 16 (by omega); omega
  obtain ⟨x6, hx6⟩ : ∃ x : Nat, atOf l 6 5 = x := ⟨(atOf l 6 5).toNat, by have := atOf_bounds l 6 5 (by omega); omega⟩
  have hb6 : x6 < 5 := by have := atOf_bounds l 6 5 (by omega); omega
  obtain ⟨x7, hx7⟩ : ∃ x : Nat, atOf l 7 12 = x := ⟨(atOf l 7 12).toNat, by have := atOf_bounds l 7 12 (by omega); omega⟩
  have hb7 : x7 < 12 := by have := atOf_bounds l 7 12 (by omega); omega
  obtain ⟨x8, hx8⟩ : ∃ x : Nat, atOf l 8 20 = x := ⟨(atOf l 8 20).toNat, by have := atOf_bounds l 8 20 (by omega); omega⟩
  have hb8 : x8 < 20 := by have := atOf_bounds l 8 20 (by omega); omega
  obtain ⟨x9, hx9⟩ : ∃ x : Nat, atOf l 9 12 = x := ⟨(atOf l 9 12).toNat, by have := atOf_bounds l 9 12 (by omega); omega⟩
  have hb9 : x9 < 12 := by have := atOf_bounds l 9 12 (by omega); omega
  obtain ⟨x10, hx10⟩ : ∃ x : Nat, atOf l 10 5 = x := ⟨(atOf l 10 5).toNat, by have := atOf_bounds l 10 5 (by omega); omega⟩
  have hb10 : x10 < 5 := by have := atOf_bounds l 10 5 (by omega); omega
  obtain ⟨x11, hx11⟩ : ∃ x : Nat, atOf l 11 3 = x := ⟨(atOf l 11 3).toNat, by have := atOf_bounds l 11 3 (by omega); omega⟩
  have hb11 : x11 < 3 := by have := atOf_bounds l 11 3 (by omega); omega
  obtain ⟨x12, hx12⟩ : ∃ x : Nat, atOf l 12 1000 = x := ⟨(atOf l 12 1000).toNat, by have := atOf_bounds l 12 1000 (by omega); omega⟩
  have hb12 : x12 < 1000 := by have := atOf_bounds l 12 1000 (by omega); omega
  have HE := Lib.hid (config_eq l x0 x1 x2 x3 x4 x5 x6 x7 x8 x9 x10 x11 x12 (by omega) hx0 hx1 hx2 hx3 hx4 hx5 hx6 hx7 hx8 hx9 hx10 hx11 hx12)
  have HX0 := Lib.hid hx0
  have HX1 := Lib.hid hx1
  have HX2 := Lib.hid hx2
  have HX3 := Lib.hid hx3
  have HX4 := Lib.hid hx4
  have HX5 := Lib.hid hx5
  have HX6 := Lib.hid hx6
  have HX7 := Lib.hid hx7
  have HX8 := Lib.hid hx8
  have HX9 := Lib.hid hx9
  have HX10 := Lib.hid hx10
  have HX11 := Lib.hid hx11
  have HX12 := Lib.hid hx12
  have hs0 : IntKind.i64.wrap (1 + (x0 : Int)) = 1 + (x0 : Int) := by rw [IntKind.wrap_i64]; omega
  have hs1 : IntKind.i64.wrap (2 * 2 ^ x1) = 2 * 2 ^ x1 := shl_fact 2 x1 (by omega) hb1
  have hs2 : IntKind.i64.wrap (1 + (x2 : Int)) = 1 + (x2 : Int) := by rw [IntKind.wrap_i64]; omega
  have hs3 : IntKind.i64.wrap (8 * 2 ^ x3) = 8 * 2 ^ x3 := shl_fact 8 x3 (by omega) hb3
  have hs4 : IntKind.i64.wrap (1 + (x4 : Int)) = 1 + (x4 : Int) := by rw [IntKind.wrap_i64]; omega
  have hs5 : IntKind.i64.wrap (1 + (x5 : Int)) = 1 + (x5 : Int) := by rw [IntKind.wrap_i64]; omega
  have hs6 : IntKind.i64.wrap (2 + (x6 : Int)) = 2 + (x6 : Int) := by rw [IntKind.wrap_i64]; omega
  have hs7 : IntKind.i64.wrap (1 + (x7 : Int)) = 1 + (x7 : Int) := by rw [IntKind.wrap_i64]; omega
  have hs8 : IntKind.i64.wrap (1 + (x8 : Int)) = 1 + (x8 : Int) := by rw [IntKind.wrap_i64]; omega
  have hs9 : IntKind.i64.wrap (1 + (x9 : Int)) = 1 + (x9 : Int) := by rw [IntKind.wrap_i64]; omega
  have hs10 : IntKind.i64.wrap (1 + (x10 : Int)) = 1 + (x10 : Int) := by rw [IntKind.wrap_i64]; omega
  have hs11 : IntKind.i64.wrap (1 + (x11 : Int)) = 1 + (x11 : Int) := by rw [IntKind.wrap_i64]; omega
  have hs12 : IntKind.u32.wrap (x12 : Int) = (x12 : Int) := by rw [IntKind.wrap_u32]; omega
  have hbld := buildCfg x0 x1 x2 x3 x4 x5 x6 x7 x8 x9 x10 x11 x12 (by omega)
  have hz : (cfgC x0 x1 x2 x3 x4 x5 x6 x7 x8 x9 x10 x11 x12).size = 48 := by rw [cfgC_eq x0 x1 x2 x3 x4 x5 x6 x7 x8 x9 x10 x11 x12 (by omega)]; exact cc_size _
  have hone : (cfgC x0 x1 x2 x3 x4 x5 x6 x7 x8 x9 x10 x11 x12).all (·.oneCell') = true := by rw [cfgC_eq x0 x1 x2 x3 x4 x5 x6 x7 x8 x9 x10 x11 x12 (by omega)]; exact cc_one _
  have hst := fun (w : World) (n : Nat) (Z : Array Value) (hn : n = w.heap.size) (hZ : Z.size = 48) => store29 w n Z (cfgC x0 x1 x2 x3 x4 x5 x6 x7 x8 x9 x10 x11 x12) hn hZ hz hone
  have HI := Lib.hid h
  rw [HE.out]
  clear h HE hx0 hx1 hx2 hx3 hx4 hx5 hx6 hx7 hx8 hx9 hx10 hx11 hx12
  generalize cfgC x0 x1 x2 x3 x4 x5 x6 x7 x8 x9 x10 x11 x12 = C at *
  go_enter Try.func8, Try.ntmps8
  go_wp2_with fail
  have hA0 := at_new w 33 #[.int .i64 0, .int .i64 0, .int .i64 0, .int .i64 0, .int .i64 0, .int .i64 0, .int .i64 0, .int .i64 0, .int .i64 0, .int .i64 0, .int .i64 0, .int .i64 0, .bool false, .bool false, .int .u8 0, .int .u8 0, .int .u8 0, .int .u8 0, .int .u8 0, .int .u8 0, .int .u8 0, .int .u8 0, .int .u8 0, .int .u8 0, .int .u8 0, .int .u8 0, .int .u8 0, .int .u8 0, .int .u8 0, .int .u8 0, .bool false, .int .u8 0, .int .u8 0, .int .u8 0, .int .u8 0, .int .u8 0, .int .u8 0, .int .u8 0, .int .u8 0, .int .u8 0, .int .u8 0, .int .u8 0, .int .u8 0, .int .u8 0, .int .u8 0, .int .u8 0, .int .u8 0, .int .u32 0] w.heap.size rfl
  have HA0 := Lib.hid hA0.drew
  have HI0 := Lib.hid (HI.out.below ((Below.refl _ w).alloc (Nat.le_refl _) (.cells #[.int .i64 0, .int .i64 0, .int .i64 0, .int .i64 0, .int .i64 0, .int .i64 0, .int .i64 0, .int .i64 0, .int .i64 0, .int .i64 0, .int .i64 0, .int .i64 0, .bool false, .bool false, .int .u8 0, .int .u8 0, .int .u8 0, .int .u8 0, .int .u8 0, .int .u8 0, .int .u8 0, .int .u8 0, .int .u8 0, .int .u8 0, .int .u8 0, .int .u8 0, .int .u8 0, .int .u8 0, .int .u8 0, .int .u8 0, .bool false, .int .u8 0, .int .u8 0, .int .u8 0, .int .u8 0, .int .u8 0, .int .u8 0, .int .u8 0, .int .u8 0, .int .u8 0, .int .u8 0, .int .u8 0, .int .u8 0, .int .u8 0, .int .u8 0, .int .u8 0, .int .u8 0, .int .u32 0] 33))).drew
  have HB0 := Lib.hid ((Below.refl _ w).alloc (Nat.le_refl _) (.cells #[.int .i64 0, .int .i64 0, .int .i64 0, .int .i64 0, .int .i64 0, .int .i64 0, .int .i64 0, .int .i64 0, .int .i64 0, .int .i64 0, .int .i64 0, .int .i64 0, .bool false, .bool false, .int .u8 0, .int .u8 0, .int .u8 0, .int .u8 0, .int .u8 0, .int .u8 0, .int .u8 0, .int .u8 0, .int .u8 0, .int .u8 0, .int .u8 0, .int .u8 0, .int .u8 0, .int .u8 0, .int .u8 0, .int .u8 0, .bool false, .int .u8 0, .int .u8 0, .int .u8 0, .int .u8 0, .int .u8 0, .int .u8 0, .int .u8 0, .int .u8 0, .int .u8 0, .int .u8 0, .int .u8 0, .int .u8 0, .int .u8 0, .int .u8 0, .int .u8 0, .int .u8 0, .int .u32 0] 33)).drew
  clear hA0 HI
  obtain ⟨g, hg⟩ : ∃ g, g = w.heap.size := ⟨_, rfl⟩
  have hgw : w.heap.size ≤ g := by omega
  rw [← hg] at HA0
  rw [← hg]
  clear hg
  refine region_sq (fun i => i = g) [(0, true), (3, true), (6, true), (9, true), (12, true), (15, true), (18, true), (21, true), (24, true), (27, true), (30, true), (33, true), (36, true), (37, true), (1, false), (2, true), (4, false), (5, true), (7, false), (8, true), (10, false), (11, true), (13, false), (14, true), (16, false), (17, true), (19, false), (20, true), (22, false), (23, true), (25, false), (26, true), (28, false), (29, true), (31, false), (32, true), (34, false), (35, true), (38, false), (39, true), (40, true), (41, false)] (by kernel_rfl) (by kernel_rfl) (fun _ _ d _ _ h => by cases d <;> exact h) ?_
  repeat (first
    | (refine sq_yes rfl (by rfl) (fun w' hM => by ((try replace hM := hM.of_drew); obtain ⟨hR1, hR2, hR3⟩ := hM.rules; clear hM; go_simp; with_reducible rfl)) ?_; simp only [Act.put, List.setIfInBounds_toArray, List.set_cons_zero, List.set_cons_succ])
    | (refine sq_no rfl (by rfl) ?_; simp only [Act.put, List.setIfInBounds_toArray, List.set_cons_zero, List.set_cons_succ]))
  refine sq_do_yes rfl (by rfl) (fun K hK => ?_)
  go_wp2_with fail
  refine (at_any a n c l 0 4 _ HI0.out hn (by decide) (by decide) (by decide)).mono ?_
  rintro e w1 ⟨rfl, hb⟩
  rw [HX0.out]
  have HI1 := Lib.hid (HI0.out.below hb)
  have HA1 := Lib.hid (HA0.out.below hb HA0.out.lt)
  have HB1 := Lib.hid (step_below HB0.out hb)
  go_wp2_with fail
  refine ⟨Mod.of_below hb, ?_⟩
  clear hb HI0 HA0 HB0
  repeat (first
    | (refine sq_yes rfl (by rfl) (fun w' hM => by ((try replace hM := hM.of_drew); obtain ⟨hR1, hR2, hR3⟩ := hM.rules; clear hM; go_simp; with_reducible rfl)) ?_; simp only [Act.put, List.setIfInBounds_toArray, List.set_cons_zero, List.set_cons_succ])
    | (refine sq_no rfl (by rfl) ?_; simp only [Act.put, List.setIfInBounds_toArray, List.set_cons_zero, List.set_cons_succ]))
  refine sq_do_yes rfl (by rfl) (fun K hK => ?_)
  go_wp2_with fail
  refine (at_any a n c l 1 6 _ HI1.out hn (by decide) (by decide) (by decide)).mono ?_
  rintro e w2 ⟨rfl, hb⟩
  rw [HX1.out]
  have HI2 := Lib.hid (HI1.out.below hb)
  have HA2 := Lib.hid (HA1.out.below hb HA1.out.lt)
  have HB2 := Lib.hid (step_below HB1.out hb)
  go_wp2_with fail
  refine ⟨Mod.of_below hb, ?_⟩
  clear hb HI1 HA1 HB1
  repeat (first
    | (refine sq_yes rfl (by rfl) (fun w' hM => by ((try replace hM := hM.of_drew); obtain ⟨hR1, hR2, hR3⟩ := hM.rules; clear hM; go_simp; with_reducible rfl)) ?_; simp only [Act.put, List.setIfInBounds_toArray, List.set_cons_zero, List.set_cons_succ])
    | (refine sq_no rfl (by rfl) ?_; simp only [Act.put, List.setIfInBounds_toArray, List.set_cons_zero, List.set_cons_succ]))
  refine sq_do_yes rfl (by rfl) (fun K hK => ?_)
  go_wp2_with fail
  refine (at_any a n c l 2 16 _ HI2.out hn (by decide) (by decide) (by decide)).mono ?_
  rintro e w3 ⟨rfl, hb⟩
  rw [HX2.out]
  have HI3 := Lib.hid (HI2.out.below hb)
  have HA3 := Lib.hid (HA2.out.below hb HA2.out.lt)
  have HB3 := Lib.hid (step_below HB2.out hb)
  go_wp2_with fail
  refine ⟨Mod.of_below hb, ?_⟩
  clear hb HI2 HA2 HB2
  repeat (first
    | (refine sq_yes rfl (by rfl) (fun w' hM => by ((try replace hM := hM.of_drew); obtain ⟨hR1, hR2, hR3⟩ := hM.rules; clear hM; go_simp; with_reducible rfl)) ?_; simp only [Act.put, List.setIfInBounds_toArray, List.set_cons_zero, List.set_cons_succ])
    | (refine sq_no rfl (by rfl) ?_; simp only [Act.put, List.setIfInBounds_toArray, List.set_cons_zero, List.set_cons_succ]))
  refine sq_do_yes rfl (by rfl) (fun K hK => ?_)
  go_wp2_with fail
  refine (at_any a n c l 3 6 _ HI3.out hn (by decide) (by decide) (by decide)).mono ?_
  rintro e w4 ⟨rfl, hb⟩
  rw [HX3.out]
  have HI4 := Lib.hid (HI3.out.below hb)
  have HA4 := Lib.hid (HA3.out.below hb HA3.out.lt)
  have HB4 := Lib.hid (step_below HB3.out hb)
  go_wp2_with fail
  refine ⟨Mod.of_below hb, ?_⟩
  clear hb HI3 HA3 HB3
  repeat (first
    | (refine sq_yes rfl (by rfl) (fun w' hM => by ((try replace hM := hM.of_drew); obtain ⟨hR1, hR2, hR3⟩ := hM.rules; clear hM; go_simp; with_reducible rfl)) ?_; simp only [Act.put, List.setIfInBounds_toArray, List.set_cons_zero, List.set_cons_succ])
    | (refine sq_no rfl (by rfl) ?_; simp only [Act.put, List.setIfInBounds_toArray, List.set_cons_zero, List.set_cons_succ]))
  refine sq_do_yes rfl (by rfl) (fun K hK => ?_)
  go_wp2_with fail
  refine (at_any a n c l 4 4 _ HI4.out hn (by decide) (by decide) (by decide)).mono ?_
  rintro e w5 ⟨rfl, hb⟩
  rw [HX4.out]
  have HI5 := Lib.hid (HI4.out.below hb)
  have HA5 := Lib.hid (HA4.out.below hb HA4.out.lt)
  have HB5 := Lib.hid (step_below HB4.out hb)
  go_wp2_with fail
  refine ⟨Mod.of_below hb, ?_⟩
  clear hb HI4 HA4 HB4
  repeat (first
    | (refine sq_yes rfl (by rfl) (fun w' hM => by ((try replace hM := hM.of_drew); obtain ⟨hR1, hR2, hR3⟩ := hM.rules; clear hM; go_simp; with_reducible rfl)) ?_; simp only [Act.put, List.setIfInBounds_toArray, List.set_cons_zero, List.set_cons_succ])
    | (refine sq_no rfl (by rfl) ?_; simp only [Act.put, List.setIfInBounds_toArray, List.set_cons_zero, List.set_cons_succ]))
  refine sq_do_yes rfl (by rfl) (fun K hK => ?_)
  go_wp2_with fail
  refine (at_any a n c l 5 16 _ HI5.out hn (by decide) (by decide) (by decide)).mono ?_
  rintro e w6 ⟨rfl, hb⟩
  rw [HX5.out]
  have HI6 := Lib.hid (HI5.out.below hb)
  have HA6 := Lib.hid (HA5.out.below hb HA5.out.lt)
  have HB6 := Lib.hid (step_below HB5.out hb)
  go_wp2_with fail
  refine ⟨Mod.of_below hb, ?_⟩
  clear hb HI5 HA5 HB5
  repeat (first
    | (refine sq_yes rfl (by rfl) (fun w' hM => by ((try replace hM := hM.of_drew); obtain ⟨hR1, hR2, hR3⟩ := hM.rules; clear hM; go_simp; with_reducible rfl)) ?_; simp only [Act.put, List.setIfInBounds_toArray, List.set_cons_zero, List.set_cons_succ])
    | (refine sq_no rfl (by rfl) ?_; simp only [Act.put, List.setIfInBounds_toArray, List.set_cons_zero, List.set_cons_succ]))
  refine sq_do_yes rfl (by rfl) (fun K hK => ?_)
  go_wp2_with fail
  refine (at_any a n c l 6 5 _ HI6.out hn (by decide) (by decide) (by decide)).mono ?_
  rintro e w7 ⟨rfl, hb⟩
  rw [HX6.out]
  have HI7 := Lib.hid (HI6.out.below hb)
  have HA7 := Lib.hid (HA6.out.below hb HA6.out.lt)
  have HB7 := Lib.hid (step_below HB6.out hb)
  go_wp2_with fail
  refine ⟨Mod.of_below hb, ?_⟩
  clear hb HI6 HA6 HB6
  repeat (first
    | (refine sq_yes rfl (by rfl) (fun w' hM => by ((try replace hM := hM.of_drew); obtain ⟨hR1, hR2, hR3⟩ := hM.rules; clear hM; go_simp; with_reducible rfl)) ?_; simp only [Act.put, List.setIfInBounds_toArray, List.set_cons_zero, List.set_cons_succ])
    | (refine sq_no rfl (by rfl) ?_; simp only [Act.put, List.setIfInBounds_toArray, List.set_cons_zero, List.set_cons_succ]))
  refine sq_do_yes rfl (by rfl) (fun K hK => ?_)
  go_wp2_with fail
  refine (at_any a n c l 7 12 _ HI7.out hn (by decide) (by decide) (by decide)).mono ?_
  rintro e w8 ⟨rfl, hb⟩
  rw [HX7.out]
  have HI8 := Lib.hid (HI7.out.below hb)
  have HA8 := Lib.hid (HA7.out.below hb HA7.out.lt)
  have HB8 := Lib.hid (step_below HB7.out hb)
  go_wp2_with fail
  refine ⟨Mod.of_below hb, ?_⟩
  clear hb HI7 HA7 HB7
  repeat (first
    | (refine sq_yes rfl (by rfl) (fun w' hM => by ((try replace hM := hM.of_drew); obtain ⟨hR1, hR2, hR3⟩ := hM.rules; clear hM; go_simp; with_reducible rfl)) ?_; simp only [Act.put, List.setIfInBounds_toArray, List.set_cons_zero, List.set_cons_succ])
    | (refine sq_no rfl (by rfl) ?_; simp only [Act.put, List.setIfInBounds_toArray, List.set_cons_zero, List.set_cons_succ]))
  refine sq_do_yes rfl (by rfl) (fun K hK => ?_)
  go_wp2_with fail
  refine (at_any a n c l 8 20 _ HI8.out hn (by decide) (by decide) (by decide)).mono ?_
  rintro e w9 ⟨rfl, hb⟩
  rw [HX8.out]
  have HI9 := Lib.hid (HI8.out.below hb)
  have HA9 := Lib.hid (HA8.out.below hb HA8.out.lt)
  have HB9 := Lib.hid (step_below HB8.out hb)
  go_wp2_with fail
  refine ⟨Mod.of_below hb, ?_⟩
  clear hb HI8 HA8 HB8
  repeat (first
    | (refine sq_yes rfl (by rfl) (fun w' hM => by ((try replace hM := hM.of_drew); obtain ⟨hR1, hR2, hR3⟩ := hM.rules; clear hM; go_simp; with_reducible rfl)) ?_; simp only [Act.put, List.setIfInBounds_toArray, List.set_cons_zero, List.set_cons_succ])
    | (refine sq_no rfl (by rfl) ?_; simp only [Act.put, List.setIfInBounds_toArray, List.set_cons_zero, List.set_cons_succ]))
  refine sq_do_yes rfl (by rfl) (fun K hK => ?_)
  go_wp2_with fail
  refine (at_any a n c l 9 12 _ HI9.out hn (by decide) (by decide) (by decide)).mono ?_
  rintro e w10 ⟨rfl, hb⟩
  rw [HX9.out]
  have HI10 := Lib.hid (HI9.out.below hb)
  have HA10 := Lib.hid (HA9.out.below hb HA9.out.lt)
  have HB10 := Lib.hid (step_below HB9.out hb)
  go_wp2_with fail
  refine ⟨Mod.of_below hb, ?_⟩
  clear hb HI9 HA9 HB9
  repeat (first
    | (refine sq_yes rfl (by rfl) (fun w' hM => by ((try replace hM := hM.of_drew); obtain ⟨hR1, hR2, hR3⟩ := hM.rules; clear hM; go_simp; with_reducible rfl)) ?_; simp only [Act.put, List.setIfInBounds_toArray, List.set_cons_zero, List.set_cons_succ])
    | (refine sq_no rfl (by rfl) ?_; simp only [Act.put, List.setIfInBounds_toArray, List.set_cons_zero, List.set_cons_succ]))
  refine sq_do_yes rfl (by rfl) (fun K hK => ?_)
  go_wp2_with fail
  refine (at_any a n c l 10 5 _ HI10.out hn (by decide) (by decide) (by decide)).mono ?_
  rintro e w11 ⟨rfl, hb⟩
  rw [HX10.out]
  have HI11 := Lib.hid (HI10.out.below hb)
  have HA11 := Lib.hid (HA10.out.below hb HA10.out.lt)
  have HB11 := Lib.hid (step_below HB10.out hb)
  go_wp2_with fail
  refine ⟨Mod.of_below hb, ?_⟩
  clear hb HI10 HA10 HB10
  repeat (first
    | (refine sq_yes rfl (by rfl) (fun w' hM => by ((try replace hM := hM.of_drew); obtain ⟨hR1, hR2, hR3⟩ := hM.rules; clear hM; go_simp; with_reducible rfl)) ?_; simp only [Act.put, List.setIfInBounds_toArray, List.set_cons_zero, List.set_cons_succ])
    | (refine sq_no rfl (by rfl) ?_; simp only [Act.put, List.setIfInBounds_toArray, List.set_cons_zero, List.set_cons_succ]))
  refine sq_do_yes rfl (by rfl) (fun K hK => ?_)
  go_wp2_with fail
  refine (at_any a n c l 11 3 _ HI11.out hn (by decide) (by decide) (by decide)).mono ?_
  rintro e w12 ⟨rfl, hb⟩
  rw [HX11.out]
  have HI12 := Lib.hid (HI11.out.below hb)
  have HA12 := Lib.hid (HA11.out.below hb HA11.out.lt)
  have HB12 := Lib.hid (step_below HB11.out hb)
  go_wp2_with fail
  refine ⟨Mod.of_below hb, ?_⟩
  clear hb HI11 HA11 HB11
  repeat (first
    | (refine sq_yes rfl (by rfl) (fun w' hM => by ((try replace hM := hM.of_drew); obtain ⟨hR1, hR2, hR3⟩ := hM.rules; clear hM; go_simp; with_reducible rfl)) ?_; simp only [Act.put, List.setIfInBounds_toArray, List.set_cons_zero, List.set_cons_succ])
    | (refine sq_no rfl (by rfl) ?_; simp only [Act.put, List.setIfInBounds_toArray, List.set_cons_zero, List.set_cons_succ]))
  refine sq_do_yes rfl (by rfl) (fun K hK => ?_)
  go_wp2_with fail
  refine (at_any a n c l 12 1000 _ HI12.out hn (by decide) (by decide) (by decide)).mono ?_
  rintro e w13 ⟨rfl, hb⟩
  rw [HX12.out]
  have HI13 := Lib.hid (HI12.out.below hb)
  have HA13 := Lib.hid (HA12.out.below hb HA12.out.lt)
  have HB13 := Lib.hid (step_below HB12.out hb)
  go_wp2_with fail
  refine ⟨Mod.of_below hb, ?_⟩
  clear hb HI12 HA12 HB12
  repeat (first
    | (refine sq_yes rfl (by rfl) (fun w' hM => by ((try replace hM := hM.of_drew); obtain ⟨hR1, hR2, hR3⟩ := hM.rules; clear hM; go_simp; with_reducible rfl)) ?_; simp only [Act.put, List.setIfInBounds_toArray, List.set_cons_zero, List.set_cons_succ])
    | (refine sq_no rfl (by rfl) ?_; simp only [Act.put, List.setIfInBounds_toArray, List.set_cons_zero, List.set_cons_succ]))
  refine sq_do_yes rfl (by rfl) (fun K hK => ?_)
  refine wp_store_agg g 0 33 _ C HA13.out (by rw [hz]; decide) (by rw [hz]; exact sizeC) hone rfl rfl rfl ?_
  have hA := HA13.out.setCells C.toList 0
  have hM := Mod.setCells (M := fun i => i = g) (g := g) rfl C.toList 0 w13
  have hspl : splice #[.int .i64 0, .int .i64 0, .int .i64 0, .int .i64 0, .int .i64 0, .int .i64 0, .int .i64 0, .int .i64 0, .int .i64 0, .int .i64 0, .int .i64 0, .int .i64 0, .bool false, .bool false, .int .u8 0, .int .u8 0, .int .u8 0, .int .u8 0, .int .u8 0, .int .u8 0, .int .u8 0, .int .u8 0, .int .u8 0, .int .u8 0, .int .u8 0, .int .u8 0, .int .u8 0, .int .u8 0, .int .u8 0, .int .u8 0, .bool false, .int .u8 0, .int .u8 0, .int .u8 0, .int .u8 0, .int .u8 0, .int .u8 0, .int .u8 0, .int .u8 0, .int .u8 0, .int .u8 0, .int .u8 0, .int .u8 0, .int .u8 0, .int .u8 0, .int .u8 0, .int .u8 0, .int .u32 0] 0 C.toList = C := splice_all _ _ (by rw [hz]; decide)
  rw [hspl] at hA
  have HB := Lib.hid (HB13.out.trans (mod_below hM HB13.out.size (fun i hi => by rw [hi]; exact hgw)))
  refine hK _ _ ⟨hM, ?_⟩
  clear hM hspl hK K
  have HA := Lib.hid hA
  clear hA
  generalize w13.setCells g 0 C.toList = w14 at *
  refine sq_end ?_
  go_wp2_with fail
  exact bodyPost_ret (results_cell_row rfl _ _ g 33 C (0, 0) _ rfl HA.out Try.underlying33 rfl (by rw [hz]; exact sizeC)) rfl ⟨rfl, HB.out⟩
end Go.Proofs.Ytgjecemmejaieaa

/-
  bazaaralike.Key: the n-th of some flows.
-/
namespace Go.Proofs.Ytgjecemmejaieaa
open Go.RowKit
theorem exec_bldK (parts : Array (Nat × Operand)) (dst : Option Tmp) (ty : TypeId) (pos : String) (after : Array Edge) (g : Option (Nat × Bool)) (f : Operand → Value) (w : World) :
    (execOp f ⟨dst, .build 57 parts, ty, pos, after, g⟩).run Try.prog w = bldX Try.prog 57 (parts.map fun (i, x) => (i, f x)) w := rfl
theorem exec_bld16 (parts : Array (Nat × Operand)) (dst : Option Tmp) (ty : TypeId) (pos : String) (after : Array Edge) (g : Option (Nat × Bool)) (f : Operand → Value) (w : World) :
    (execOp f ⟨dst, .build 28 parts, ty, pos, after, g⟩).run Try.prog w = bldX Try.prog 28 (parts.map fun (i, x) => (i, f x)) w := rfl
attribute [local go_sem ↓] exec_bldK exec_bld16
def adr4 (v6 : Bool) (a b c d : Nat) (h : a < 256 ∧ b < 256 ∧ c < 256 ∧ d < 256) : Adr := ⟨v6, [a, b, c, d, 0, 0, 0, 0, 0, 0, 0, 0, 0, 0, 0, 0], rfl, fun x hx => by simp at hx; omega⟩
def keyOf (m : Nat) (v6 udp : Bool) : Ky := ⟨if udp then 17 else 6, adr4 v6 10 (m / 65536 % 256) (m / 256 % 256) (m % 256) (by omega), adr4 v6 192 168 0 1 (by omega), 1000 + m % 50000, 80, by split <;> omega, by omega, by omega⟩
def akey (n : Int) (v6 udp : Bool) : Ky := keyOf (n % 1073741824).toNat v6 udp
def ub (l : List Nat) : Array Value := (u8s l).toArray
theorem ub_size (l : List Nat) : (ub l).size = l.length := by simp [ub, u8s]
theorem ub_one (l : List Nat) : (ub l).all (·.oneCell') = true := by
  rw [Array.all_eq_true']
  intro v hv
  simp only [ub, List.mem_toArray] at hv
  exact u8s_one l v hv
theorem kc_one (k : Ky) : (kc k).all (·.oneCell') = true := by
  rw [Array.all_eq_true']
  intro v hv
  simp only [kc, List.mem_toArray, Ky.l, List.mem_append, Adr.l, List.mem_cons, u8s, List.mem_map, List.not_mem_nil, or_false] at hv
  rcases hv with rfl | h | h | h
  · rfl
  · rcases h with rfl | ⟨a, _, rfl⟩ <;> rfl
  · rcases h with rfl | ⟨a, _, rfl⟩ <;> rfl
  · rcases h with rfl | rfl <;> rfl
def ky0 (m : Nat) : Ky := ⟨6, adr0 false, adr0 false, 1000 + m % 50000, 80, by omega, by omega, by omega⟩
theorem build40 (m : Nat) (w : World) : bldX Try.prog 57 #[(0, Value.int .u8 6), (3, .int .u16 (1000 + (m : Int) % 50000)), (4, .int .u16 80)] w = .ok (.value (.agg (kc (ky0 m)))) w :=
  bldX_of w (by kernel_rfl)
def srcB (m : Nat) : List Nat := [10, m / 65536 % 256, m / 256 % 256, m % 256, 0, 0, 0, 0, 0, 0, 0, 0, 0, 0, 0, 0]
def dstB : List Nat := [192, 168, 0, 1, 0, 0, 0, 0, 0, 0, 0, 0, 0, 0, 0, 0]
theorem build24s (m : Nat) (w : World) : bldX Try.prog 28 #[(0, Value.int .u8 10), (1, .int .u8 ((m : Int) / 65536 % 256)), (2, .int .u8 ((m : Int) / 256 % 256)), (3, .int .u8 ((m : Int) % 256))] w = .ok (.value (.agg (ub (srcB m)))) w :=
  bldX_of w (by kernel_rfl)
theorem build24d (w : World) : bldX Try.prog 28 #[(0, Value.int .u8 192), (1, .int .u8 168), (2, .int .u8 0), (3, .int .u8 1)] w = .ok (.value (.agg (ub dstB))) w :=
  bldX_of w (by kernel_rfl)
theorem size16 : (Try.prog.info? 28).map (·.size) = some 16 := by kernel_rfl
theorem key_tcp (m : Nat) (v6 : Bool) : splice (splice (((kc (ky0 m)).setIfInBounds 1 (.bool v6)).setIfInBounds 18 (.bool v6)) 2 (ub (srcB m)).toList) 19 (ub dstB).toList = kc (keyOf m v6 false) := by kernel_rfl
theorem key_udp (m : Nat) (v6 : Bool) : splice (splice ((((kc (ky0 m)).setIfInBounds 0 (.int .u8 17)).setIfInBounds 1 (.bool v6)).setIfInBounds 18 (.bool v6)) 2 (ub (srcB m)).toList) 19 (ub dstB).toList = kc (keyOf m v6 true) := by kernel_rfl
set_option maxRecDepth 100000 in
set_option maxHeartbeats 4000000 in
theorem key_any (n : Int) (v6 udp : Bool) (w : World) : Calls Try.prog 15 #[.int .i64 n, .bool v6, .bool udp] w fun e w' => e = .returned (.agg (kc (akey n v6 udp))) ∧ Below w.heap.size w w' := by
  obtain ⟨m, hm⟩ : ∃ m : Nat, n % 1073741824 = m := ⟨(n % 1073741824).toNat, by omega⟩
  have HE : Hid (akey n v6 udp = keyOf m v6 udp) := Lib.hid (by unfold akey; congr 1; omega)
  have HM := Lib.hid hm
  have hw : IntKind.u32.wrap (m : Int) = (m : Int) := by rw [IntKind.wrap_u32]; omega
  have hml : m < 1073741824 := by omega
  have hst := fun (w : World) (n : Nat) (Z : Array Value) (hn : n = w.heap.size) (hZ : Z.size = 37) => store_new (P := Try.prog) sizeK w n Z (kc (ky0 m)) hn hZ (kc_size _) (kc_one _)
  have hs2 := fun (w : World) (n off : Nat) (Z : Array Value) (hn : n = w.heap.size) (hZ : off + 16 ≤ Z.size) => store_mid (P := Try.prog) w n off 57 Z (ub (srcB m)) hn (by rw [ub_size]; exact hZ) (ub_one _)
  have hs4 := fun (w : World) (n : Nat) (Z : Array Value) (ob : Obj) (hn : n = w.heap.size) (hZ : Z.size = 37) => store_second (P := Try.prog) w n 57 Z (kc (keyOf m v6 udp)) ob hn (by rw [kc_size, hZ]) (kc_one _)
  have hz1 : (ub (srcB m)).size = 16 := ub_size _
  have hz2 : (ub dstB).size = 16 := ub_size _
  have hb1 := build40 m
  have hb2 := build24s m
  have hb3 := build24d
  rw [HE.out]
  clear hm HE
  cases udp
  · have hs3 := fun (w : World) (n : Nat) (hn : n = w.heap.size) => store_mid (P := Try.prog) w n 19 57 (splice (((kc (ky0 m)).setIfInBounds 1 (.bool v6)).setIfInBounds 18 (.bool v6)) 2 (ub (srcB m)).toList) (ub dstB) hn (by rw [splice_size, Array.size_setIfInBounds, Array.size_setIfInBounds, kc_size, ub_size]; decide) (ub_one _)
    rw [key_tcp] at hs3
    go_enter Try.func15, Try.ntmps15
    go_wp2_with fail
    refine (round_big n 1073741824 (by omega) (by omega) _).mono ?_
    rintro e w1 ⟨rfl, rfl⟩
    rw [HM.out]
    go_wp2_with fail
    exact bodyPost_ret (results_cell_row rfl _ _ w.heap.size 57 (kc (keyOf m v6 false)) (0, 0) _ rfl ((at_new w 57 _ _ rfl).alloc _) Try.underlying57 rfl (by rw [kc_size]; exact sizeK)) rfl ⟨rfl, ((Below.refl _ w).alloc (Nat.le_refl _) _).alloc (by simp) _⟩
  · have hs3 := fun (w : World) (n : Nat) (hn : n = w.heap.size) => store_mid (P := Try.prog) w n 19 57 (splice ((((kc (ky0 m)).setIfInBounds 0 (.int .u8 17)).setIfInBounds 1 (.bool v6)).setIfInBounds 18 (.bool v6)) 2 (ub (srcB m)).toList) (ub dstB) hn (by rw [splice_size, Array.size_setIfInBounds, Array.size_setIfInBounds, Array.size_setIfInBounds, kc_size, ub_size]; decide) (ub_one _)
    rw [key_udp] at hs3
    go_enter Try.func15, Try.ntmps15
    go_wp2_with fail
    refine (round_big n 1073741824 (by omega) (by omega) _).mono ?_
    rintro e w1 ⟨rfl, rfl⟩
    rw [HM.out]
    go_wp2_with fail
    exact bodyPost_ret (results_cell_row rfl _ _ w.heap.size 57 (kc (keyOf m v6 true)) (0, 0) _ rfl ((at_new w 57 _ _ rfl).alloc _) Try.underlying57 rfl (by rw [kc_size]; exact sizeK)) rfl ⟨rfl, ((Below.refl _ w).alloc (Nat.le_refl _) _).alloc (by simp) _⟩
end Go.Proofs.Ytgjecemmejaieaa

/-
  A family that is nil; cells of configurations, families and flows as they are read; places held against each other.
-/
namespace Go.Proofs.Ytgjecemmejaieaa
open Go.RowKit
@[go_sem] theorem cc_0q (c : Cf) : (cc c)[0]? = some (.int .i64 c.stages) := cl_head c 0 (by omega)
@[go_sem] theorem fc_0q (c : Cf) : (fc c)[0]? = some (.int .i64 c.stages) := by rw [fc_get c 0 (by omega), cc_0q]
@[go_sem] theorem cc_1q (c : Cf) : (cc c)[1]? = some (.int .i64 c.size) := cl_head c 1 (by omega)
@[go_sem] theorem fc_1q (c : Cf) : (fc c)[1]? = some (.int .i64 c.size) := by rw [fc_get c 1 (by omega), cc_1q]
@[go_sem] theorem cc_2q (c : Cf) : (cc c)[2]? = some (.int .i64 c.digest) := cl_head c 2 (by omega)
@[go_sem] theorem fc_2q (c : Cf) : (fc c)[2]? = some (.int .i64 c.digest) := by rw [fc_get c 2 (by omega), cc_2q]
@[go_sem] theorem cc_3q (c : Cf) : (cc c)[3]? = some (.int .i64 c.bloom) := cl_head c 3 (by omega)
@[go_sem] theorem fc_3q (c : Cf) : (fc c)[3]? = some (.int .i64 c.bloom) := by rw [fc_get c 3 (by omega), cc_3q]
@[go_sem] theorem cc_4q (c : Cf) : (cc c)[4]? = some (.int .i64 c.hashes) := cl_head c 4 (by omega)
@[go_sem] theorem fc_4q (c : Cf) : (fc c)[4]? = some (.int .i64 c.hashes) := by rw [fc_get c 4 (by omega), cc_4q]
@[go_sem] theorem cc_5q (c : Cf) : (cc c)[5]? = some (.int .i64 c.slots) := cl_head c 5 (by omega)
@[go_sem] theorem fc_5q (c : Cf) : (fc c)[5]? = some (.int .i64 c.slots) := by rw [fc_get c 5 (by omega), cc_5q]
@[go_sem] theorem cc_6q (c : Cf) : (cc c)[6]? = some (.int .i64 c.versions) := cl_head c 6 (by omega)
@[go_sem] theorem fc_6q (c : Cf) : (fc c)[6]? = some (.int .i64 c.versions) := by rw [fc_get c 6 (by omega), cc_6q]
@[go_sem] theorem cc_7q (c : Cf) : (cc c)[7]? = some (.int .i64 c.queue) := cl_head c 7 (by omega)
@[go_sem] theorem fc_7q (c : Cf) : (fc c)[7]? = some (.int .i64 c.queue) := by rw [fc_get c 7 (by omega), cc_7q]
@[go_sem] theorem cc_8q (c : Cf) : (cc c)[8]? = some (.int .i64 c.evict) := cl_head c 8 (by omega)
@[go_sem] theorem fc_8q (c : Cf) : (fc c)[8]? = some (.int .i64 c.evict) := by rw [fc_get c 8 (by omega), cc_8q]
@[go_sem] theorem cc_9q (c : Cf) : (cc c)[9]? = some (.int .i64 c.idle) := cl_head c 9 (by omega)
@[go_sem] theorem fc_9q (c : Cf) : (fc c)[9]? = some (.int .i64 c.idle) := by rw [fc_get c 9 (by omega), cc_9q]
@[go_sem] theorem cc_10q (c : Cf) : (cc c)[10]? = some (.int .i64 c.linger) := cl_head c 10 (by omega)
@[go_sem] theorem fc_10q (c : Cf) : (fc c)[10]? = some (.int .i64 c.linger) := by rw [fc_get c 10 (by omega), cc_10q]
@[go_sem] theorem cc_11q (c : Cf) : (cc c)[11]? = some (.int .i64 c.fails) := cl_head c 11 (by omega)
@[go_sem] theorem fc_11q (c : Cf) : (fc c)[11]? = some (.int .i64 c.fails) := by rw [fc_get c 11 (by omega), cc_11q]
set_option maxRecDepth 100000 in
set_option maxHeartbeats 1000000 in
theorem bits_nil (k : Ky) (w : World) :
    Calls Try.prog 64 #[.pointer none, .agg (kc k)] w fun e w' => e = .returned (.slice none 0 0) ∧ Below w.heap.size w w' := by
  go_enter Try.func64, Try.ntmps64
  go_wp2_with fail
  refine (may_nil k _).mono ?_
  rintro e w1 ⟨rfl, hb⟩
  go_wp2_with fail
  go_ret
  exact ⟨rfl, step_below ((Below.refl _ w).alloc (Nat.le_refl _) _) hb⟩
end Go.Proofs.Ytgjecemmejaieaa

/-
  awake (chapter 13).
-/
namespace Go.Proofs.Ytgjecemmejaieaa
open Go.RowKit
def cf0 : Cf := ⟨0, 0, 0, 0, 0, 0, 0, 0, 0, 0, 0, 0, false, adr0 false, adr0 false, 0, by omega⟩
theorem exec_bldC' (parts : Array (Nat × Operand)) (dst : Option Tmp) (ty : TypeId) (pos : String) (after : Array Edge) (g : Option (Nat × Bool)) (f : Operand → Value) (w : World) :
    (execOp f ⟨dst, .build 33 parts, ty, pos, after, g⟩).run Try.prog w = bldX Try.prog 33 (parts.map fun (i, x) => (i, f x)) w := rfl
attribute [local go_sem ↓] exec_bldC'
theorem build_zero (w : World) : bldX Try.prog 33 #[] w = .ok (.value (.agg (cc cf0))) w := bldX_of w (by kernel_rfl)
theorem cok_zero : cok cf0 = false := by kernel_rfl
theorem kvld_five : kvld (akey 5 false false) = true := by kernel_rfl
theorem cok_roomy : cok (roomy 1) = true := by kernel_rfl
theorem roomy_below (s : Int) (w : World) : Calls Try.prog 17 #[.int .i64 s] w fun e w' => e = .returned (.agg (cc (roomy s))) ∧ Below w.heap.size w w' :=
  (roomy_any s w).mono fun _ _ ⟨h1, h2⟩ => ⟨h1, h2 ▸ (Below.refl _ w).alloc (Nat.le_refl _) _⟩
end Go.Proofs.Ytgjecemmejaieaa

/-
  Slices of integers that come in; a small configuration may be.
-/
namespace Go.Proofs.Ytgjecemmejaieaa
open Go.RowKit
/-- What a walk is told of a slice of integers that came in: nil, or a row of 'cap' cells, the numbers 'zs'. -/
def IsRow (k : IntKind) (w : World) (a : Option Addr) (len cap : Nat) (zs : List Int) : Prop :=
  (a = none ∧ len = 0 ∧ cap = 0 ∧ zs = []) ∨
  ∃ x, a = some x ∧ len ≤ cap ∧ cap ≤ maxLen ∧ zs.length = cap ∧ (∀ i, i < zs.length → w.cell? (x.add i) = some (.int k (zs.getD i 0))) ∧ ∀ n ∈ zs, (Lit.int k n).wf = true
theorem cell_spot {w : World} {a : Addr} {v : Value} (h : w.cell? a = some v) : a.spot = none ∧ a.block < w.heap.size := by
  refine ⟨?_, World.block_lt_of_cell? _ _ h⟩
  unfold World.cell? at h
  split at h
  · split at h
    · cases h
    · rename_i hs; simpa using hs
  · cases h
theorem IsRow.ints {w : World} {a : Option Addr} {len cap : Nat} {zs : List Int} (h : IsRow .i64 w a len cap zs) : Ints w a len (zs.take len) ∧ len ≤ maxLen ∧ ∀ n ∈ zs.take len, (Lit.int .i64 n).wf = true := by
  rcases h with ⟨rfl, rfl, rfl, rfl⟩ | ⟨x, rfl, h1, h2, h3, h4, h5⟩
  · exact ⟨⟨rfl, fun h => by omega⟩, by unfold maxLen; omega, fun n hn => by simp at hn⟩
  · refine ⟨⟨by simp; omega, fun hpos => ?_⟩, by omega, fun n hn => h5 n (List.mem_of_mem_take hn)⟩
    have h0 := h4 0 (by omega)
    rw [show x.add 0 = x from by simp [Addr.add]] at h0
    obtain ⟨hs, hb⟩ := cell_spot h0
    obtain ⟨b, o, s⟩ := x
    simp only at hs hb
    subst hs
    refine ⟨b, o, rfl, hb, fun i hi => ?_⟩
    have := h4 i (by omega)
    have hadd : (⟨b, o, none⟩ : Addr).add i = ⟨b, o + i, none⟩ := by unfold Addr.add; split <;> simp_all
    rw [hadd] at this
    rw [this]
    simp [List.getD_eq_getElem?_getD, hi]
theorem pow_fact (k x : Nat) (hk : k = 2 ∨ k = 8) (hx : x < 6) : (k : Int) ≤ (k : Int) * 2 ^ x ∧ (k : Int) * 2 ^ x ≤ (k : Int) * 32 ∧ (bits .and .i64 ((k : Int) * 2 ^ x) (wrap64 ((k : Int) * 2 ^ x - 1)) == 0) = true := by
  have : x = 0 ∨ x = 1 ∨ x = 2 ∨ x = 3 ∨ x = 4 ∨ x = 5 := by omega
  rcases hk with rfl | rfl <;> rcases this with rfl | rfl | rfl | rfl | rfl | rfl <;> exact ⟨by decide, by decide, by kernel_rfl⟩
theorem wi_of {n low high : Int} (h1 : low ≤ n) (h2 : n ≤ high) : wi n low high = true := wi_iff.2 ⟨h1, h2⟩
/-- What a configuration's numbers are, when it may be. -/
structure Fits (c : Cf) : Prop where
  st : 1 ≤ c.stages ∧ c.stages ≤ 4
  sz : 2 ≤ c.size ∧ c.size ≤ 1024
  dg : 1 ≤ c.digest ∧ c.digest ≤ 16
  bl : 8 ≤ c.bloom ∧ c.bloom ≤ 65536
  ha : 1 ≤ c.hashes ∧ c.hashes ≤ 4
theorem fits_of {c : Cf} (h : cok c = true) : Fits c := by
  simp only [cok, sizesOk, pw, Bool.and_eq_true, wi_iff] at h
  obtain ⟨⟨⟨⟨⟨⟨⟨h1, h2⟩, h3⟩, h4⟩, h5⟩, _⟩, _⟩, _⟩ := h
  exact ⟨h1, h2.1, h3, h4.1, h5⟩
theorem cok_config (l : List Int) : cok (config l) = true := by
  have b0 := atOf_bounds l 0 4 (by omega)
  have b1 := atOf_bounds l 1 6 (by omega)
  have b2 := atOf_bounds l 2 16 (by omega)
  have b3 := atOf_bounds l 3 6 (by omega)
  have b4 := atOf_bounds l 4 4 (by omega)
  have b5 := atOf_bounds l 5 16 (by omega)
  have b6 := atOf_bounds l 6 5 (by omega)
  have b7 := atOf_bounds l 7 12 (by omega)
  have b8 := atOf_bounds l 8 20 (by omega)
  have b9 := atOf_bounds l 9 12 (by omega)
  have b10 := atOf_bounds l 10 5 (by omega)
  have b11 := atOf_bounds l 11 3 (by omega)
  have p1 := pow_fact 2 (atOf l 1 6).toNat (by omega) (by omega)
  have p3 := pow_fact 8 (atOf l 3 6).toNat (by omega) (by omega)
  have ho : vld (adr0 false) = true := by kernel_rfl
  have ho6 : vld (adr0 true) = true := by kernel_rfl
  simp only [cok, sizesOk, poolsOk, timesOk, ownsOk, pw, config, cfgOf, ho, ho6, Bool.and_eq_true, wi_iff]
  refine ⟨⟨⟨⟨⟨⟨⟨?_, ?_, ?_⟩, ?_⟩, ?_, ?_⟩, ?_⟩, ⟨⟨?_, ?_⟩, ?_⟩, ?_⟩, ⟨?_, ?_⟩, ?_⟩, ?_⟩
  case refine_3 => exact p1.2.2
  case refine_6 => exact p3.2.2
  case refine_2 => have := p1.1; have := p1.2.1; constructor <;> omega
  case refine_5 => have := p3.1; have := p3.2.1; constructor <;> omega
  case refine_15 => simp
  all_goals omega
end Go.Proofs.Ytgjecemmejaieaa
