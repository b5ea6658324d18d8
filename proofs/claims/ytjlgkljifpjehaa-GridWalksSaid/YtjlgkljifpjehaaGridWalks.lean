/-
  The grid's methods, one contract each, for each type that a grid is made of.
-/
import Derived.Test.YtjlgkljifpjehaaGridRows
import Derived.Test.YtjlgkljifpjehaaGridAwake
import Derived.WalkSpells
import Derived.WalkLawsBesides
import Derived.Lib.Hide
import Derived.Laws.MakeOwn
import Derived.OwnWalk
import Derived.RangeFuncNested
import Derived.RangeFuncBound
import Derived.RangeFuncCalls
import Derived.RangeFuncLeaves
import Derived.RangeFuncBox
import Derived.Shelf.Abstract
import Derived.Shelf.RegionOpen
import Derived.WalkKit
import Derived.OwnWalkIn
import Derived.TacticsInMore
import Derived.LoopNIn
import Derived.LoopIn
import Derived.Laws.StructEq
namespace Go.Proofs.Ytjlgkljifpjehaa
open Go.RowKit Go.Shelf
attribute [local go_sem] Oper.semAt_some
namespace Gi
theorem put_at {a b r : Nat} {l : List (Option V)} {o : Option V} (hb : 0 < b) (hr : r < a * b) : put a b ((r / b : Nat) : Int) ((r % b : Nat) : Int) l o = l.set r o ∧ pin a b ((r / b : Nat) : Int) ((r % b : Nat) : Int) = true := by
  have h1 : r / b < a := (Nat.div_lt_iff_lt_mul hb).2 hr
  have h2 : r % b < b := Nat.mod_lt _ hb
  have hp : pin a b ((r / b : Nat) : Int) ((r % b : Nat) : Int) = true := decide_eq_true ⟨Int.natCast_nonneg _, Int.ofNat_lt.2 h1, Int.natCast_nonneg _, Int.ofNat_lt.2 h2⟩
  refine ⟨?_, hp⟩
  unfold put
  rw [hp, if_pos rfl, Int.toNat_natCast, Int.toNat_natCast, Nat.mul_comm, Nat.div_add_mod]
set_option maxRecDepth 100000 in
set_option maxHeartbeats 4000000 in
theorem walks_in (a b : Nat) (h1 : 1 ≤ a) (h2 : a ≤ 4) (h3 : 1 ≤ b) (h4 : b ≤ 100) (a2 : Option Addr) (len cap : Nat) (hlen : len ≤ 60) (zs : List Int) (most : Int) (w : World) (hI : IsRow .i64 w a2 len cap zs) :
    Calls Try.prog 6 #[.int .i64 a, .int .i64 b, .slice a2 len cap, .int .i64 most] w fun e w' => e = .returned (.bool true) ∧ Below w.heap.size w w' := by
  have d1 : decide ((a : Int) < 1) = false := by simp; omega
  have d2 : decide (4 < (a : Int)) = false := by simp; omega
  have d3 : decide ((b : Int) < 1) = false := by simp; omega
  have d4 : decide (100 < (b : Int)) = false := by simp; omega
  have d5 : decide (60 < (len : Int)) = false := by simp; omega
  have hm : a * b ≤ 400 := Nat.mul_le_mul h2 h4
  have hm0 : 1 ≤ a * b := Nat.mul_le_mul h1 h3
  have hx1 : IntKind.i64.wrap ((a : Int) * (b : Int)) = ((a * b : Nat) : Int) := by
    rw [← Int.natCast_mul, IntKind.wrap_i64]; omega
  have HI := Lib.hid (ints_of_row hI)
  clear hI
  have hmk := makeB (a * b) (by omega)
  go_enter Try.func6, Try.ntmps6
  go_wp2_with fail
  refine (Gi.new_ok a b h1 h2 h3 (by omega) w).mono ?_
  rintro e w1 ⟨rfl, hg, hb⟩
  obtain ⟨gh, hgh⟩ : ∃ gh, gh = w.heap.size + 1 := ⟨_, rfl⟩
  obtain ⟨gl, hgl⟩ : ∃ gl, gl = w.heap.size := ⟨_, rfl⟩
  obtain ⟨gs, hgs⟩ : ∃ gs, gs = w1.heap.size := ⟨_, rfl⟩
  rw [← hgh]
  rw [← hgh, ← hgl] at hg
  have l1 := hg.1.lt
  have l2 := hg.2.1.lt
  have HGH := Lib.hid (show w.heap.size ≤ gh by omega)
  have HGL := Lib.hid (show w.heap.size ≤ gl by omega)
  have HGS := Lib.hid (show w.heap.size ≤ gs by have := hb.size; omega)
  have n1 : gs ≠ gh := by omega
  have n2 : gs ≠ gl := by omega
  have n3 : ¬ (gs = gh ∨ gs = gl) := fun x => x.elim n1 n2
  have HG1 := Lib.hid hg
  have HB1 := Lib.hid hb
  clear hg hb hgh hgl l1 l2
  generalize hN : a * b = N at *
  go_wp2_with fail
  have hA := At.new w1 4 (marks (List.replicate N none))
  rw [← hgs] at hA
  rw [← hgs]
  obtain ⟨W2, hW2⟩ : ∃ W2, W2 = w1.alloc (.cells (marks (List.replicate N none)) 4) := ⟨_, rfl⟩
  have HG2 := Lib.hid (HG1.out.alloc (.cells (marks (List.replicate N none)) 4))
  have HB2 := Lib.hid (HB1.out.alloc HB1.out.size (.cells (marks (List.replicate N none)) 4))
  rw [← hW2] at hA HG2 HB2
  rw [← hW2]
  have HA2 := Lib.hid hA
  have HNN := Lib.hid hN
  have HGO := Lib.hid (Good.new N)
  clear hgs hA hW2 HG1 HB1 hmk hN
  go_loopw [12] (fun i wr => ∃ k : Nat, k ≤ len ∧ i = .int .i64 k ∧ ∃ L, Good N L ∧ Gr wr gh gl a b L ∧ At wr gs 4 (marks L) ∧ Below w.heap.size w wr) (fun i _ => len - (intOf i).toNat)
  case atStart => exact ⟨0, Nat.zero_le _, rfl, _, HGO.out, HG2.out, HA2.out, HB2.out⟩
  case round =>
    obtain ⟨k, hk, rfl, L, hgo, hg, hA, hb⟩ := hrel
    have HGO := Lib.hid hgo
    have HG := Lib.hid hg
    have HA := Lib.hid hA
    have HB := Lib.hid hb
    clear hgo hg hA hb
    by_cases hlt : k < len
    · obtain ⟨ba, oa, rfl, hba, hca⟩ := HI.out (by omega)
      have hx2 : wr.cell? ⟨ba, oa + k, none⟩ = _ := (HB.out.cell (p := ⟨ba, oa + k, none⟩) hba).trans (hca k hlt)
      clear hca
      generalize zs.getD k 0 = z at *
      obtain ⟨r, hr⟩ : ∃ r : Nat, (r : Int) = z % (N : Int) := ⟨(z % (N : Int)).toNat, Int.toNat_of_nonneg (Int.emod_nonneg _ (by omega))⟩
      have hrN : r < N := by have := Int.emod_lt_of_pos z (show (0 : Int) < N by omega); omega
      have HR := Lib.hid hr
      clear hr
      obtain ⟨hp1, hp2⟩ := put_at (a := a) (b := b) (l := L) (o := some (r : Int)) (by omega) (by rw [HNN.out]; exact hrN)
      obtain ⟨q1, hq1⟩ : ∃ q : Nat, q = r / b := ⟨_, rfl⟩
      obtain ⟨q2, hq2⟩ : ∃ q : Nat, q = r % b := ⟨_, rfl⟩
      have hqk : q1 ≤ r := by rw [hq1]; exact Nat.div_le_self _ _
      have hx3 : ¬ b = 0 := by omega
      have hx4 : IntKind.i64.wrap ((r : Int) / (b : Int)) = (q1 : Int) := by rw [← Int.natCast_ediv, ← hq1, IntKind.wrap_i64]; omega
      have hx5 : (r : Int).tmod (b : Int) = (q2 : Int) := by rw [Int.tmod_eq_emod_of_nonneg (Int.natCast_nonneg r), ← Int.natCast_emod, ← hq2]
      rw [← hq1, ← hq2] at hp1 hp2
      have HP1 := Lib.hid hp1
      have HP2 := Lib.hid hp2
      have hba' : ba < wr.heap.size := by have := HB.out.size; omega
      clear hp1 hp2 hq1 hq2 hqk
      go_wp2_with fail
      refine (round_any z N (by omega) (by omega) _).mono ?_
      rintro e w3 ⟨rfl, rfl⟩
      rw [← HR.out]
      go_wp2_with fail
      refine region_sq (fun i => i = gh ∨ i = gl) [(0, true), (1, true), (2, true), (3, true), (4, true), (5, true), (6, true), (8, true), (7, true), (9, false), (10, true)] (by kernel_rfl) (by kernel_rfl) (fun _ _ d _ _ h => by cases d <;> exact h) ?_
      repeat (first
          | (refine sq_yes rfl (by rfl) (fun w' hM => by ((try replace hM := hM.of_drew); obtain ⟨hR1, hR2, hR3⟩ := hM.rules; clear hM; go_simp; with_reducible rfl)) ?_; simp only [Act.put, List.setIfInBounds_toArray, List.set_cons_zero, List.set_cons_succ])
          | (refine sq_no rfl (by rfl) ?_; simp only [Act.put, List.setIfInBounds_toArray, List.set_cons_zero, List.set_cons_succ]))
      refine sq_do_yes rfl (by rfl) (fun K hK => ?_)
      go_wp2_with fail
      refine (Gi.set_any gh gl a b _ _ _ _ _ HG.out.drew).mono ?_
      rintro e w4 ⟨rfl, hm4, hg4⟩
      rw [HP2.out]
      rw [HP1.out] at hg4
      have HM4 := Lib.hid hm4
      have HG4 := Lib.hid hg4
      clear hm4 hg4
      go_wp2_with fail
      refine ⟨HM4.out, ?_⟩
      repeat (first
          | (refine sq_yes rfl (by rfl) (fun w' hM => by ((try replace hM := hM.of_drew); obtain ⟨hR1, hR2, hR3⟩ := hM.rules; clear hM; go_simp; with_reducible rfl)) ?_; simp only [Act.put, List.setIfInBounds_toArray, List.set_cons_zero, List.set_cons_succ])
          | (refine sq_no rfl (by rfl) ?_; simp only [Act.put, List.setIfInBounds_toArray, List.set_cons_zero, List.set_cons_succ]))
      refine sq_end ?_
      have HA4 := Lib.hid (HA.out.drew.mod HM4.out n3)
      have f4 := HA4.out.frozen r
      have c4 := (HA4.out.cell r).trans (marks_get L r)
      rw [List.getElem?_eq_getElem (by rw [HGO.out.1]; exact hrN), Option.map_some] at c4
      have e4 := HA4.out.lt
      have hrN' : (r : Int) < (N : Int) := Int.ofNat_lt.2 hrN
      go_wp2_with fail
      go_roundw
      case rel =>
        refine ⟨k + 1, by omega, by go_num, L.set r (some (r : Int)), HGO.out.set r, ⟨HG4.out.1.far (Ne.symm n1) _, HG4.out.2.1.far (Ne.symm n2) _, HG4.out.2.2⟩, ?_, ?_⟩
        · rw [← marks_set]; exact HA4.out.set r _
        · exact (HB.out.drew.trans (mod_below HM4.out HB.out.size (fun i hi => by have := HGH.out; have := HGL.out; omega))).setCell (p := ⟨gs, r, none⟩) HGS.out _
      case measure => simp [intOf]; omega
    · obtain rfl : k = len := by omega
      have hml : (0 : Int) ≤ most % ((k : Int) + 1) := Int.emod_nonneg _ (by omega)
      go_wp2_with fail
      refine (round_any most _ (by omega) (by omega) _).mono ?_
      rintro e w3 ⟨rfl, rfl⟩
      go_wp2_with fail
      refine (walk_any gh gl a b L _ _ HG.out h3).mono ?_
      rintro e w4 ⟨v1, rfl, hr1, hb4⟩
      have HG4 := Lib.hid (HG.out.below hb4 HG.out.1.lt HG.out.2.1.lt)
      have HR1 := Lib.hid hr1
      have HA4 := Lib.hid (HA.out.below hb4 HA.out.lt)
      have HB4 := Lib.hid (HB.out.trans (hb4.mono HB.out.size))
      clear hr1 hb4
      go_wp2_with fail
      refine (walk_any gh gl a b L _ _ HG4.out h3).mono ?_
      rintro e w5 ⟨v2, rfl, hr2, hb5⟩
      have HR1 := Lib.hid (ownsRow_below HR1.out hb5)
      have HR2 := Lib.hid hr2
      have HA5 := Lib.hid (HA4.out.below hb5 HA4.out.lt)
      have HB5 := Lib.hid (HB4.out.trans (hb5.mono HB4.out.size))
      clear hr2 hb5
      obtain ⟨M, hM⟩ : ∃ M : Nat, (M : Int) = most % ((k : Int) + 1) := ⟨_, Int.toNat_of_nonneg hml⟩
      have hMk : M < k + 1 := by have := Int.emod_lt_of_pos most (show (0 : Int) < (k : Int) + 1 by omega); omega
      have hcx : cut (most % ((k : Int) + 1)) (got L (a * b)) = (got L N).take M := by unfold cut; rw [← hM, if_neg (by omega), Int.toNat_natCast, HNN.out]
      have hcy : cut (-1) (got L (a * b)) = got L N := by unfold cut; rw [if_pos (by omega), HNN.out]
      have HR1 := Lib.hid (hcx ▸ HR1.out)
      have HR2 := Lib.hid (hcy ▸ HR2.out)
      have HMM := Lib.hid hM
      clear hcx hcy hM hml
      obtain ⟨ad1, cap1, hv1⟩ := row_form HR1.out
      obtain ⟨ad2, cap2, hv2⟩ := row_form HR2.out
      subst hv1 hv2
      obtain ⟨X, hX⟩ : ∃ X, X = (got L N).take M := ⟨_, rfl⟩
      obtain ⟨Y, hY⟩ : ∃ Y, Y = got L N := ⟨_, rfl⟩
      have HX := Lib.hid hX
      have HY := Lib.hid hY
      have HR1 := Lib.hid (hX ▸ HR1.out)
      have HR2 := Lib.hid (hY ▸ HR2.out)
      rw [← hX, ← hY]
      clear hX hY
      generalize hnX : X.length = nX at *
      generalize hnY : Y.length = nY at *
      have HNX := Lib.hid hnX
      have HNY := Lib.hid hnY
      clear hnX hnY
      go_wp2_with fail
      go_loopw [16, 17] (fun n i wr => ∃ j : Nat, j ≤ N ∧ i = .int .i64 j ∧ n = .int .i64 ((got L j).length : Nat) ∧ Below w5.heap.size w5 wr) (fun _ i _ => N - (intOf i).toNat)
      case atStart => exact ⟨0, Nat.zero_le _, rfl, rfl, Below.refl _ _⟩
      case round =>
        obtain ⟨j, hj, rfl, rfl, hb⟩ := hrel
        have HBL := Lib.hid hb
        clear hb
        have HA6 := Lib.hid (HA5.out.below HBL.out HA5.out.lt)
        by_cases hlt : j < N
        · have hlt' : (j : Int) < (N : Int) := Int.ofNat_lt.2 hlt
          have c4 := (HA6.out.cell j).trans (marks_get L j)
          have e4 := HA6.out.lt
          obtain ⟨o, ho⟩ : ∃ o, L[j]? = some o := ⟨_, List.getElem?_eq_getElem (by rw [HGO.out.1]; exact hlt)⟩
          rw [ho, Option.map_some] at c4
          cases o with
          | none =>
            simp only [Option.isSome_none] at c4
            have HL := Lib.hid (got_none ho)
            generalize hgn : got L j = G at *
            go_wp2_with fail
            go_roundw
            case rel => exact ⟨j + 1, by omega, by go_num, by rw [HL.out], HBL.out⟩
            case measure => simp [intOf]; omega
          | some v =>
            simp only [Option.isSome_some] at c4
            have HL := Lib.hid (got_some ho)
            have hvj := HGO.out.2 j v ho
            subst hvj
            have hY := got_at hlt ho
            rw [← HY.out] at hY
            have hYn : (got L j).length < nY := by have := (List.getElem?_eq_some_iff.1 hY).1; have := HNY.out; omega
            have r2 := ownsRow_below HR2.out HBL.out
            rw [← HNY.out] at r2
            obtain ⟨g2, cp2, hv2, eg2, y0, y1, y2⟩ := row_cell r2 _ _ hY
            simp only [Value.slice.injEq] at hv2
            obtain ⟨rfl, -, -⟩ := hv2
            obtain ⟨q1, hq1⟩ : ∃ q : Nat, q = j / b := ⟨_, rfl⟩
            obtain ⟨q2, hq2⟩ : ∃ q : Nat, q = j % b := ⟨_, rfl⟩
            have hqk : q1 ≤ j := by rw [hq1]; exact Nat.div_le_self _ _
            have hx3 : ¬ b = 0 := by omega
            have hx4 : IntKind.i64.wrap ((j : Int) / (b : Int)) = (q1 : Int) := by rw [← Int.natCast_ediv, ← hq1, IntKind.wrap_i64]; omega
            have hx5 : (j : Int).tmod (b : Int) = (q2 : Int) := by rw [Int.tmod_eq_emod_of_nonneg (Int.natCast_nonneg j), ← Int.natCast_emod, ← hq2]
            simp only [← hq1, ← hq2] at y0 y1 y2
            have HQ1 := Lib.hid hq1
            have HQ2 := Lib.hid hq2
            clear r2 hq1 hq2 hqk
            have hLn : (got L (j + 1)).length = (got L j).length + 1 := by rw [HL.out, List.length_append]; rfl
            have HLN := Lib.hid hLn
            have hx6 : IntKind.i64.wrap ((((got L j).length : Nat) : Int) + 1) = (((got L j).length : Nat) : Int) + 1 := by have := got_length L j; rw [IntKind.wrap_i64]; omega
            clear hLn
            have t1 := guardP
            have t2 := guardI
            have t3 := neqP
            have t4 := neqI
            have hYn1 : (((got L j).length : Nat) : Int) < (nY : Int) := Int.ofNat_lt.2 hYn
            have hYn2 : decide (nY ≤ (got L j).length) = false := by simp; omega
            by_cases hXn : (got L j).length < nX
            · have hX : X[(got L j).length]? = some (j, (j : Int)) := by
                have h1 : (got L j).length < M := by
                  have := HNX.out
                  rw [HX.out, List.length_take] at this
                  omega
                rw [HX.out, List.getElem?_take, if_pos h1, ← HY.out]; exact hY
              have r1 := ownsRow_below HR1.out HBL.out
              rw [← HNX.out] at r1
              obtain ⟨g1, cp1, hv1, eg1, x0, x1, x2⟩ := row_cell r1 _ _ hX
              simp only [Value.slice.injEq] at hv1
              obtain ⟨rfl, -, -⟩ := hv1
              simp only [← HQ1.out, ← HQ2.out] at x0 x1 x2
              have hXn1 : (((got L j).length : Nat) : Int) < (nX : Int) := Int.ofNat_lt.2 hXn
              clear r1 hX
              go_wp2_with fail
              refine region_sq (fun _ => False) [(0, true), (1, true), (2, true), (3, true), (4, true), (5, true), (6, true), (7, true), (8, true), (9, true), (10, true), (11, true), (12, true), (13, true), (14, true), (15, true), (16, true), (17, true), (18, true), (19, true), (20, true), (21, true), (22, true), (23, true), (24, true), (25, true), (26, true), (27, true), (28, true), (29, true), (30, true), (31, true), (32, true), (33, true), (34, true), (35, true), (36, true), (37, true), (38, true), (39, true), (40, true), (41, true), (42, true), (43, true), (44, true)] (by kernel_rfl) (by kernel_rfl) (fun _ _ d _ _ h => by cases d <;> exact h) ?_
              repeat (first
                  | (refine sq_yes rfl (by rfl) (fun w' hM => by ((try replace hM := hM.of_drew); obtain ⟨hR1, hR2, hR3⟩ := hM.rules; clear hM; go_simp; with_reducible rfl)) ?_; simp only [Act.put, List.setIfInBounds_toArray, List.set_cons_zero, List.set_cons_succ])
                  | (refine sq_no rfl (by rfl) ?_; simp only [Act.put, List.setIfInBounds_toArray, List.set_cons_zero, List.set_cons_succ]))
              refine sq_end ?_
              go_wp2_with fail
              go_roundw
              case rel => exact ⟨j + 1, by omega, by go_num, by rw [HLN.out]; go_num, HBL.out.drew⟩
              case measure => simp [intOf]; omega
            · have hXn1 : decide ((got L j).length < nX) = false := by simp; omega
              go_wp2_with fail
              refine region_sq (fun _ => False) [(0, true), (1, true), (2, true), (3, true), (4, true), (5, true), (6, true), (7, true), (8, true), (9, true), (10, true), (11, true), (12, true), (13, true), (14, true), (15, true), (16, true), (17, true), (18, true), (19, true), (20, true), (21, true), (22, true), (23, true), (24, true), (25, true), (26, true), (27, true), (28, true), (29, true), (30, true), (31, true), (32, true), (33, true), (34, true), (35, true), (36, true), (37, true), (38, true), (39, true), (40, true), (41, true), (42, true), (43, true), (44, true)] (by kernel_rfl) (by kernel_rfl) (fun _ _ d _ _ h => by cases d <;> exact h) ?_
              repeat (first
                  | (refine sq_yes rfl (by rfl) (fun w' hM => by ((try replace hM := hM.of_drew); obtain ⟨hR1, hR2, hR3⟩ := hM.rules; clear hM; go_simp; with_reducible rfl)) ?_; simp only [Act.put, List.setIfInBounds_toArray, List.set_cons_zero, List.set_cons_succ])
                  | (refine sq_no rfl (by rfl) ?_; simp only [Act.put, List.setIfInBounds_toArray, List.set_cons_zero, List.set_cons_succ]))
              refine sq_end ?_
              go_wp2_with fail
              go_roundw
              case rel => exact ⟨j + 1, by omega, by go_num, by rw [HLN.out]; go_num, HBL.out.drew⟩
              case measure => simp [intOf]; omega
        · obtain rfl : j = N := by omega
          have e1 : (got L j).length = nY := by rw [← HNY.out, HY.out]
          have e2 : nX = min M nY := by rw [← HNX.out, HX.out, List.length_take, e1]
          rw [e1]
          clear e1
          have hx6 : IntKind.i64.wrap ((k : Int) + 1) = (k : Int) + 1 := by rw [IntKind.wrap_i64]; omega
          rcases Nat.lt_or_ge nY M with hc | hc
          · have e3 : nX = nY := by omega
            have hcM : (nY : Int) < (M : Int) := Int.ofNat_lt.2 hc
            rw [e3]
            clear e2 e3
            go_wp2_with fail
            refine (round_any most _ (by omega) (by omega) _).mono ?_
            rintro e w6 ⟨rfl, rfl⟩
            rw [← HMM.out]
            go_wp2_with fail
            refine (awake_any _).mono ?_
            rintro e w7 ⟨rfl, hb⟩
            have HB7 := Lib.hid ((HB5.out.trans (HBL.out.mono HB5.out.size)).trans (hb.mono (HB5.out.trans (HBL.out.mono HB5.out.size)).size))
            clear hb
            go_wp2_with fail
            go_ret
            exact ⟨rfl, HB7.out⟩
          · have e3 : nX = M := by omega
            have hcM : ¬ nY < M := by omega
            rw [e3]
            clear e2 e3
            go_wp2_with fail
            refine (round_any most _ (by omega) (by omega) _).mono ?_
            rintro e w6 ⟨rfl, rfl⟩
            rw [← HMM.out]
            go_wp2_with fail
            refine (awake_any _).mono ?_
            rintro e w7 ⟨rfl, hb⟩
            have HB7 := Lib.hid ((HB5.out.trans (HBL.out.mono HB5.out.size)).trans (hb.mono (HB5.out.trans (HBL.out.mono HB5.out.size)).size))
            clear hb
            go_wp2_with fail
            go_ret
            exact ⟨rfl, HB7.out⟩
end Gi
end Go.Proofs.Ytjlgkljifpjehaa
