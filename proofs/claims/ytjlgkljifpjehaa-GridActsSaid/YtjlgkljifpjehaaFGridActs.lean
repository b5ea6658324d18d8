/-
  GridActs: its walk.
-/
import Derived.Test.YtjlgkljifpjehaaGridActsP
import Derived.Deep.DeepCutAuto
import Derived.Deep.CutBlock
import Derived.Deep.CutRange
import Derived.Shelf.Abstract
namespace Go.Proofs.Ytjlgkljifpjehaa
open Go.RowKit Go.Shelf
namespace Gi
set_option maxHeartbeats 1000000 in
theorem before_any (s i s' i' : Int) (w : World) :
    Calls Try.prog 18 #[.agg #[.int .i64 s, .int .i64 i], .agg #[.int .i64 s', .int .i64 i']] w fun e w' => e = .returned (.bool (bef s i s' i')) ∧ Below w.heap.size w w' := by
  have hcase : (s < s') ∨ (decide (s < s') = false ∧ (s == s') = true ∧ bef s i s' i' = decide (i < i')) ∨ (decide (s < s') = false ∧ (s == s') = false ∧ bef s i s' i' = false) := by
    unfold bef
    by_cases h1 : s < s'
    · exact .inl h1
    · by_cases h2 : s = s'
      · exact .inr (.inl ⟨by simpa using h1, by simpa using h2, by simp [h2]⟩)
      · exact .inr (.inr ⟨by simpa using h1, by simpa using h2, by simp [h1, h2]⟩)
  rcases hcase with h | ⟨h1, h2, h3⟩ | ⟨h1, h2, h3⟩
  · have h3 := Lib.hid (show bef s i s' i' = true by unfold bef; simp [h])
    go_enter Try.func18, Try.ntmps18
    go_wp2_with fail
    go_ret
    exact ⟨by rw [h3.out]; rfl, ((Below.refl _ _).alloc (Nat.le_refl _) _).alloc (by simp) _⟩
  · have h3 := Lib.hid h3
    go_enter Try.func18, Try.ntmps18
    go_wp2_with fail
    go_ret
    exact ⟨by rw [h3.out]; rfl, ((Below.refl _ _).alloc (Nat.le_refl _) _).alloc (by simp) _⟩
  · have h3 := Lib.hid h3
    go_enter Try.func18, Try.ntmps18
    go_wp2_with fail
    go_ret
    exact ⟨by rw [h3.out]; rfl, ((Below.refl _ _).alloc (Nat.le_refl _) _).alloc (by simp) _⟩
set_option maxRecDepth 100000 in
set_option maxHeartbeats 16000000 in
theorem acts_in (a b : Nat) (h1 : 1 ≤ a) (h2 : a ≤ 4) (h3 : 1 ≤ b) (h4 : b ≤ 1024) (a2 : Option Addr) (len cap : Nat) (hlen : len ≤ 60) (LA : List Act) (w : World) (hI : Ri w.heap.size 4 actEnc w a2 len LA) :
    Calls Try.prog 4 #[.int .i64 a, .int .i64 b, .slice a2 len cap] w fun e w' => e = .returned (.bool true) ∧ Below w.heap.size w w' := by
  have d1 : decide ((a : Int) < 1) = false := by simp; omega
  have d2 : decide (4 < (a : Int)) = false := by simp; omega
  have d3 : decide ((b : Int) < 1) = false := by simp; omega
  have d4 : decide (1024 < (b : Int)) = false := by simp; omega
  have d5 : decide (60 < (len : Int)) = false := by simp; omega
  have hm : a * b ≤ 4096 := Nat.mul_le_mul h2 h4
  have HI := Lib.hid hI
  clear hI
  go_enter Try.func4, Try.ntmps4
  go_wp2_with fail
  refine (Gi.new_ok a b h1 h2 h3 h4 w).mono ?_
  rintro e wN ⟨rfl, hg, hb⟩
  obtain ⟨gh, hgh⟩ : ∃ gh, gh = w.heap.size + 1 := ⟨_, rfl⟩
  obtain ⟨gl, hgl⟩ : ∃ gl, gl = w.heap.size := ⟨_, rfl⟩
  rw [← hgh]
  rw [← hgh, ← hgl] at hg
  have G1 := hg.1.lt
  have G2 := hg.2.1.lt
  have HGH := Lib.hid (show w.heap.size ≤ gh by omega)
  have HGL := Lib.hid (show w.heap.size ≤ gl by omega)
  have HB := Lib.hid hb
  have HG := Lib.hid (show GrI wN gh gl a b _ from hg)
  have HI := Lib.hid (HI.out.below hb)
  obtain ⟨B1, hB1⟩ : ∃ B1, B1 = wN.heap.size := ⟨_, rfl⟩
  rw [← hB1] at G1 G2
  have HBW : w.heap.size ≤ B1 := by rw [hB1]; exact hb.size
  have HB1 := Lib.hid hB1
  clear hg hb hgh hgl hB1
  have HS := Lib.hid (show Sl 3 (item b) 41 wN B1 (.slice none 0 0) (got (List.replicate (a * b) none) (a * b)) by
    rw [got_new]; exact Sl.nil _ _ _ _ _)
  have HZ := Lib.hid (show Ge wN B1 by rw [HB1.out]; exact Nat.le_refl _)
  go_wp2_with fail
  go_loopw [9, 10] (fun v i wr => ∃ (k : Nat) (L : List (Option V)), k ≤ len ∧ i = .int .i64 k ∧ GrI wr gh gl a b L ∧ Ri w.heap.size 4 actEnc wr a2 len LA ∧ Sl 3 (item b) 41 wr B1 v (got L (a * b)) ∧ Below w.heap.size w wr ∧ Ge wr B1) (fun _ i _ => len - (intOf i).toNat)
  case atStart => exact ⟨0, _, Nat.zero_le _, rfl, HG.out, HI.out, HS.out, HB.out, HZ.out⟩
  case round =>
    as_aux_lemma =>
      clear HB HG HI HS HZ
      obtain ⟨k, L, hk, rfl, hg, hi, hs, hb, hbs⟩ := hrel
      have HG := Lib.hid hg
      have HI := Lib.hid hi
      have HS := Lib.hid hs
      have HB := Lib.hid hb
      have hLn : L.length = a * b := hg.2.2.1
      clear hg hi hs hb
      by_cases hlt : k < len
      · obtain ⟨ba, oa, rfl⟩ := HI.out.addr (by omega)
        have hx : LA[k]? = some (LA[k]'(by have := HI.out.1.1; omega)) := List.getElem?_eq_getElem _
        obtain ⟨x, hxe⟩ : ∃ x, x = LA[k]'(by have := HI.out.1.1; omega) := ⟨_, rfl⟩
        rw [← hxe] at hx
        obtain ⟨hba0, hba, hca⟩ := HI.out.get k x hx
        have c0 := hca 0 (by omega)
        have c1 := hca 1 (by omega)
        have c2 := hca 2 (by omega)
        have c3 := hca 3 (by omega)
        simp only [actEnc, List.getElem?_cons_zero, List.getElem?_cons_succ, Nat.add_zero] at c0 c1 c2 c3
        obtain ⟨kd, s, i, v⟩ := x
        simp only at c0 c1 c2 c3
        clear hca hxe hx
        obtain ⟨ad, cp, rfl⟩ := HS.out.form
        have HR := Lib.hid (HS.out.rd (item_len b)).1
        obtain ⟨W, hW⟩ : ∃ W, W = got L (a * b) := ⟨_, rfl⟩
        have hWn : W.length ≤ 4096 := by rw [hW]; exact Nat.le_trans (got_length _ _) hm
        have HWW := Lib.hid hW
        rw [← hW] at HS HR ⊢
        clear hW
        have Z := Lib.hid hbs
        obtain ⟨n, hn⟩ : ∃ n, n = W.length := ⟨_, rfl⟩
        rw [← hn] at HS HR hWn ⊢
        have HN := Lib.hid hn
        clear hn
        go_upto_region 13 with fail
        clear c0 c1 c2 c3 hba
        have NG := Lib.hid (fun g hg => (HS.out.ge (g := g) hg).2)
        
        
        
        
        
        
        have HBp := HB
        have A := at_new wr 38 (#[.int .i64 kd, .int .i64 s, .int .i64 i, .int .i64 v]) (wr.heap.size) rfl
        replace HB := Lib.hid (HB.out.alloc HB.out.size (.cells (#[.int .i64 kd, .int .i64 s, .int .i64 i, .int .i64 v]) 38))
        have HGp := HG
        replace HG := Lib.hid (HG.out.below ((Below.refl _ _).alloc (Nat.le_refl _) (.cells (#[.int .i64 kd, .int .i64 s, .int .i64 i, .int .i64 v]) 38)))
        have HIp := HI
        replace HI := Lib.hid (HI.out.below ((Below.refl _ _).alloc (Nat.le_refl _) (.cells (#[.int .i64 kd, .int .i64 s, .int .i64 i, .int .i64 v]) 38)))
        have Zp := Z
        replace Z := Lib.hid (Z.out.below ((Below.refl _ _).alloc (Nat.le_refl _) (.cells (#[.int .i64 kd, .int .i64 s, .int .i64 i, .int .i64 v]) 38)))
        have HSp := HS
        replace HS := Lib.hid (HS.out.below ((Below.refl _ _).alloc (Nat.le_refl _) (.cells (#[.int .i64 kd, .int .i64 s, .int .i64 i, .int .i64 v]) 38)))
        have HRp := HR
        replace HR := Lib.hid (HR.out.below ((Below.refl _ _).alloc (Nat.le_refl _) (.cells (#[.int .i64 kd, .int .i64 s, .int .i64 i, .int .i64 v]) 38)))
        obtain ⟨ga, hg⟩ : ∃ g, g = wr.heap.size := ⟨_, rfl⟩
        have hgs : ga = wr.heap.size := by rw [hg]
        have b_ga : w.heap.size ≤ ga := by rw [hgs]; exact HBp.out.size
        have e_ga := Lib.hid hgs
        have S_w1 := Lib.hid (show (wr.alloc (.cells (#[.int .i64 kd, .int .i64 s, .int .i64 i, .int .i64 v]) 38)).heap.size = ga + 1 by rw [World.size_alloc, hgs])
        rw [← hg] at A
        try rw [← hg]
        clear hg hgs HBp HGp HIp Zp HSp HRp
        replace A := Lib.hid A
        generalize wr.alloc (.cells (#[.int .i64 kd, .int .i64 s, .int .i64 i, .int .i64 v]) 38) = w1 at *
        obtain ⟨β, hβ⟩ : ∃ β, β = pin a b s i := ⟨_, rfl⟩
        have hcase : (decide (0 ≤ s) = false ∧ β = false) ∨ (0 ≤ s ∧ decide (s < (a : Int)) = false ∧ β = false) ∨ (0 ≤ s ∧ s < a ∧ decide (0 ≤ i) = false ∧ β = false) ∨ (0 ≤ s ∧ s < a ∧ 0 ≤ i ∧ decide (i < (b : Int)) = false ∧ β = false) ∨ (0 ≤ s ∧ s < a ∧ 0 ≤ i ∧ i < b ∧ β = true) := by
          rw [hβ]; unfold pin
          simp only [decide_eq_false_iff_not, decide_eq_true_eq]
          omega
        have HBE := Lib.hid hβ
        clear hβ
        go_cut [12] (fun s12 wx => s12 = .bool β ∧ GrI wx gh gl a b L ∧ Ri w.heap.size 4 actEnc wx (some ⟨ba, oa, none⟩) len LA ∧ Ge wx B1 ∧ Sl 3 (item b) 41 wx B1 (.slice ad n cp) W ∧ Rd 3 (item b) wx ad n W ∧ At wx ga 38 (#[.int .i64 kd, .int .i64 s, .int .i64 i, .int .i64 v]) ∧ Below w.heap.size w wx)
        case first =>
          as_aux_lemma => -- ok
            rcases hcase with ⟨q1, rfl⟩ | ⟨q1, q2, rfl⟩ | ⟨q1, q2, q3, rfl⟩ | ⟨q1, q2, q3, q4, rfl⟩ | ⟨q1, q2, q3, q4, rfl⟩
            all_goals
              have r_A := A.out.row
              have o_A := A.out.open
              have l_A := A.out.lt
              have c_A := A.out.cell
              have z_A := A.out.frozen
              go_wp2_with fail
              clear r_A o_A l_A c_A z_A
              go_meet
              exact ⟨rfl, HG.out, HI.out, Z.out, HS.out, HR.out, A.out, HB.out⟩
        case rest =>
          as_aux_lemma =>
            clear HB HG HI Z HS HR A
            obtain ⟨rfl, hHG_, hHI_, hZ_, hHS_, hHR_, hA_, hBel_⟩ := hcut
            have HG := Lib.hid hHG_
            have HI := Lib.hid hHI_
            have Z := Lib.hid hZ_
            have HS := Lib.hid hHS_
            have HR := Lib.hid hHR_
            have A := Lib.hid hA_
            have HB := Lib.hid hBel_
            clear hHG_ hHI_ hZ_ hHS_ hHR_ hA_ hBel_
            clear hcase
            go_wp2_with fail
            go_loopw [13] (fun u wr => ∃ (t : Nat), u = .int .i64 t ∧ t ≤ n ∧ (β = true → t ≤ rk L (s.toNat * b + i.toNat)) ∧ GrI wr gh gl a b L ∧ Ri w.heap.size 4 actEnc wr (some ⟨ba, oa, none⟩) len LA ∧ Ge wr B1 ∧ Sl 3 (item b) 41 wr B1 (.slice ad n cp) W ∧ Rd 3 (item b) wr ad n W ∧ At wr ga 38 (#[.int .i64 kd, .int .i64 s, .int .i64 i, .int .i64 v]) ∧ Below w.heap.size w wr) (fun u _ => n + 1 - (intOf u).toNat)
            case atStart => exact ⟨0, rfl, Nat.zero_le _, fun _ => Nat.zero_le _, HG.out, HI.out, Z.out, HS.out, HR.out, A.out, HB.out⟩
            case round =>
              clear HB HG HI Z HS HR A
              obtain ⟨t, rfl, htn, htr, hHG_, hHI_, hZ_, hHS_, hHR_, hA_, hBel_⟩ := hrel
              have HG := Lib.hid hHG_
              have HI := Lib.hid hHI_
              have Z := Lib.hid hZ_
              have HS := Lib.hid hHS_
              have HR := Lib.hid hHR_
              have A := Lib.hid hA_
              have HB := Lib.hid hBel_
              clear hHG_ hHI_ hZ_ hHS_ hHR_ hA_ hBel_
              have HTR := Lib.hid htr
              clear htr
              go_upto_region 15 with fail
              go_cut [106] (fun s106 wx => s106 = .bool (cont W b s i t) ∧ GrI wx gh gl a b L ∧ Ri w.heap.size 4 actEnc wx (some ⟨ba, oa, none⟩) len LA ∧ Ge wx B1 ∧ Sl 3 (item b) 41 wx B1 (.slice ad n cp) W ∧ Rd 3 (item b) wx ad n W ∧ At wx ga 38 (#[.int .i64 kd, .int .i64 s, .int .i64 i, .int .i64 v]) ∧ Below w.heap.size w wx)
              case first =>
                as_aux_lemma => -- ok
                  
                  by_cases htn2 : t < n
                  · obtain ⟨g, o, rfl, hgl, hc⟩ := HR.out.2 (by omega)
                    obtain ⟨x, hx⟩ : ∃ x, W[t]? = some x := ⟨_, List.getElem?_eq_getElem (by rw [← HN.out]; exact htn2)⟩
                    have x0 := hc t x hx 0 (by omega)
                    have x1 := hc t x hx 1 (by omega)
                    simp only [item, List.getElem?_cons_zero, List.getElem?_cons_succ, Nat.add_zero] at x0 x1
                    have HC := Lib.hid (show cont W b s i t = bef ((x.1 / b : Nat) : Int) ((x.1 % b : Nat) : Int) s i by unfold cont; rw [hx])
                    clear hc hx
                    have r_A := A.out.row
                    have o_A := A.out.open
                    have l_A := A.out.lt
                    have c_A := A.out.cell
                    have z_A := A.out.frozen
                    refine region_sq (fun _ => False) [(0, true), (1, true), (2, true), (3, true), (4, true), (5, true), (6, true), (7, true), (8, true), (9, true), (10, true), (11, true), (12, false), (13, true)] (by kernel_rfl) (by kernel_rfl) (fun _ _ d _ _ h => by cases d <;> exact h) ?_
                    repeat (first
                      | (refine sq_yes rfl (by rfl) (fun w' hM => by ((try replace hM := hM.of_drew); obtain ⟨hR1, hR2, hR3⟩ := hM.rules; clear hM; go_simp; with_reducible rfl)) ?_; simp only [Act.put, List.setIfInBounds_toArray, List.set_cons_zero, List.set_cons_succ])
                      | (refine sq_no rfl (by rfl) ?_; simp only [Act.put, List.setIfInBounds_toArray, List.set_cons_zero, List.set_cons_succ]))
                    clear r_A o_A l_A c_A z_A
                    replace HG := Lib.hid HG.out.drew
                    replace HI := Lib.hid HI.out.drew
                    replace Z := Lib.hid Z.out.drew
                    replace HS := Lib.hid HS.out.drew
                    replace HR := Lib.hid HR.out.drew
                    replace A := Lib.hid A.out.drew
                    replace HB := Lib.hid HB.out.drew
                    generalize wr.drew = w2 at *
                    refine sq_do_yes rfl (by rfl) (fun K_ hK_ => ?_)
                    go_wp2_with fail
                    refine (before_any _ _ _ _ _).mono ?_
                    rintro e w3 ⟨rfl, hb⟩
                    have hbs : Below w2.heap.size w2 w3 := step_below (by first | exact Below.refl _ _ | exact (Below.refl _ _).drew | exact (Below.refl _ _).alloc (Nat.le_refl _) _ | exact ((Below.refl _ _).alloc (Nat.le_refl _) _).drew | exact ((Below.refl _ _).drew).alloc (Nat.le_refl _) _ | exact ((Below.refl _ _).alloc (Nat.le_refl _) _).alloc (by simp) _ | exact (((Below.refl _ _).alloc (Nat.le_refl _) _).alloc (by simp) _).drew | exact (((Below.refl _ _).alloc (Nat.le_refl _) _).alloc (by simp) _).alloc (by simp; omega) _) hb
                    try clear HBz
                    have HBz := HB.out.size
                    replace HB := Lib.hid (step_below HB.out hbs)
                    replace HG := Lib.hid (HG.out.below hbs)
                    replace HI := Lib.hid (HI.out.below hbs)
                    replace Z := Lib.hid (Z.out.below hbs)
                    replace HS := Lib.hid (HS.out.below hbs)
                    replace HR := Lib.hid (HR.out.below hbs)
                    replace A := Lib.hid (A.out.below hbs A.out.lt)
                    clear hbs
                    go_wp2_with fail
                    refine ⟨Mod.of_below hb, ?_⟩
                    clear hb
                    have r_A := A.out.row
                    have o_A := A.out.open
                    have l_A := A.out.lt
                    have c_A := A.out.cell
                    have z_A := A.out.frozen
                    repeat (first
                      | (refine sq_yes rfl (by rfl) (fun w' hM => by ((try replace hM := hM.of_drew); obtain ⟨hR1, hR2, hR3⟩ := hM.rules; clear hM; go_simp; with_reducible rfl)) ?_; simp only [Act.put, List.setIfInBounds_toArray, List.set_cons_zero, List.set_cons_succ])
                      | (refine sq_no rfl (by rfl) ?_; simp only [Act.put, List.setIfInBounds_toArray, List.set_cons_zero, List.set_cons_succ]))
                    clear r_A o_A l_A c_A z_A
                    refine sq_end ?_
                    go_wp2_with fail
                    go_meet
                    exact ⟨by rw [HC.out, Int.natCast_ediv, Int.natCast_emod], HG.out, HI.out, Z.out, HS.out, HR.out, A.out, HB.out⟩
                  · have hx : W[t]? = none := List.getElem?_eq_none (by rw [← HN.out]; omega)
                    
                    have HC := Lib.hid (show cont W b s i t = false by unfold cont; rw [hx])
                    have htn3 : decide (t < n) = false := by simp; omega
                    clear hx
                    have r_A := A.out.row
                    have o_A := A.out.open
                    have l_A := A.out.lt
                    have c_A := A.out.cell
                    have z_A := A.out.frozen
                    refine region_sq (fun _ => False) [(0, true), (1, true), (2, true), (3, true), (4, true), (5, true), (6, true), (7, true), (8, true), (9, true), (10, true), (11, true), (12, false), (13, true)] (by kernel_rfl) (by kernel_rfl) (fun _ _ d _ _ h => by cases d <;> exact h) ?_
                    repeat (first
                      | (refine sq_yes rfl (by rfl) (fun w' hM => by ((try replace hM := hM.of_drew); obtain ⟨hR1, hR2, hR3⟩ := hM.rules; clear hM; go_simp; with_reducible rfl)) ?_; simp only [Act.put, List.setIfInBounds_toArray, List.set_cons_zero, List.set_cons_succ])
                      | (refine sq_no rfl (by rfl) ?_; simp only [Act.put, List.setIfInBounds_toArray, List.set_cons_zero, List.set_cons_succ]))
                    clear r_A o_A l_A c_A z_A
                    replace HG := Lib.hid HG.out.drew
                    replace HI := Lib.hid HI.out.drew
                    replace Z := Lib.hid Z.out.drew
                    replace HS := Lib.hid HS.out.drew
                    replace HR := Lib.hid HR.out.drew
                    replace A := Lib.hid A.out.drew
                    replace HB := Lib.hid HB.out.drew
                    generalize wr.drew = w4 at *
                    refine sq_do_no rfl (by rfl) ?_
                    repeat (first
                      | (refine sq_yes rfl (by rfl) (fun w' hM => by ((try replace hM := hM.of_drew); obtain ⟨hR1, hR2, hR3⟩ := hM.rules; clear hM; go_simp; with_reducible rfl)) ?_; simp only [Act.put, List.setIfInBounds_toArray, List.set_cons_zero, List.set_cons_succ])
                      | (refine sq_no rfl (by rfl) ?_; simp only [Act.put, List.setIfInBounds_toArray, List.set_cons_zero, List.set_cons_succ]))
                    refine sq_end ?_
                    go_wp2_with fail
                    go_meet
                    exact ⟨by rw [HC.out], HG.out, HI.out, Z.out, HS.out, HR.out, A.out, HB.out⟩
              case rest =>
                as_aux_lemma =>
                  clear HB HG HI Z HS HR A
                  obtain ⟨rfl, hHG_, hHI_, hZ_, hHS_, hHR_, hA_, hBel_⟩ := hcut
                  have HG := Lib.hid hHG_
                  have HI := Lib.hid hHI_
                  have Z := Lib.hid hZ_
                  have HS := Lib.hid hHS_
                  have HR := Lib.hid hHR_
                  have A := Lib.hid hA_
                  have HB := Lib.hid hBel_
                  clear hHG_ hHI_ hZ_ hHS_ hHR_ hA_ hBel_
                  
                  cases hc : cont W b s i t
                  · have HTE := Lib.hid (fun hp : pin a b s i = true => cont_no (l := L) h3 hp (HTR.out (HBE.out.trans hp)) (by rw [← HWW.out]; exact hc))
                    have HHA := Lib.hid (has_eq h3 hLn HTE.out)
                    rw [← HWW.out] at HHA
                    clear hc
                    go_upto_region 17 with fail
                    go_cut [14] (fun s14 wx => s14 = .bool (spot a b s i L).isSome ∧ GrI wx gh gl a b L ∧ Ri w.heap.size 4 actEnc wx (some ⟨ba, oa, none⟩) len LA ∧ Ge wx B1 ∧ Sl 3 (item b) 41 wx B1 (.slice ad n cp) W ∧ Rd 3 (item b) wx ad n W ∧ At wx ga 38 (#[.int .i64 kd, .int .i64 s, .int .i64 i, .int .i64 v]) ∧ Below w.heap.size w wx)
                    case first =>
                      as_aux_lemma => -- ok
                        have t1 := guardP
                        have t2 := eqlP
                        
                        by_cases htn2 : t < n
                        · obtain ⟨g, o, rfl, hgl, hc⟩ := HR.out.2 (by omega)
                          obtain ⟨x, hx⟩ : ∃ x, W[t]? = some x := ⟨_, List.getElem?_eq_getElem (by rw [← HN.out]; exact htn2)⟩
                          have x0 := hc t x hx 0 (by omega)
                          have x1 := hc t x hx 1 (by omega)
                          simp only [item, List.getElem?_cons_zero, List.getElem?_cons_succ, Nat.add_zero] at x0 x1
                          have HC := Lib.hid (show hasAt W b s i t = ((((x.1 / b : Nat) : Int) == s) && (((x.1 % b : Nat) : Int) == i)) by unfold hasAt; rw [hx])
                          clear hc hx
                          have r_A := A.out.row
                          have o_A := A.out.open
                          have l_A := A.out.lt
                          have c_A := A.out.cell
                          have z_A := A.out.frozen
                          refine region_sq (fun _ => False) [(0, true), (1, true), (2, true), (3, true), (4, true), (5, true), (6, true), (7, true), (8, true), (9, true), (10, true), (11, true), (12, true), (13, true), (14, true)] (by kernel_rfl) (by kernel_rfl) (fun _ _ d _ _ h => by cases d <;> exact h) ?_
                          repeat (first
                            | (refine sq_yes rfl (by rfl) (fun w' hM => by ((try replace hM := hM.of_drew); obtain ⟨hR1, hR2, hR3⟩ := hM.rules; clear hM; go_simp; with_reducible rfl)) ?_; simp only [Act.put, List.setIfInBounds_toArray, List.set_cons_zero, List.set_cons_succ])
                            | (refine sq_no rfl (by rfl) ?_; simp only [Act.put, List.setIfInBounds_toArray, List.set_cons_zero, List.set_cons_succ]))
                          clear r_A o_A l_A c_A z_A
                          replace HG := Lib.hid HG.out.drew
                          replace HI := Lib.hid HI.out.drew
                          replace Z := Lib.hid Z.out.drew
                          replace HS := Lib.hid HS.out.drew
                          replace HR := Lib.hid HR.out.drew
                          replace A := Lib.hid A.out.drew
                          replace HB := Lib.hid HB.out.drew
                          generalize wc.drew = w5 at *
                          refine sq_end ?_
                          go_wp2_with fail
                          go_meet
                          exact ⟨by rw [← HHA.out, HC.out, Int.natCast_ediv, Int.natCast_emod], HG.out, HI.out, Z.out, HS.out, HR.out, A.out, HB.out⟩
                        · have hx : W[t]? = none := List.getElem?_eq_none (by rw [← HN.out]; omega)
                          
                          have HC := Lib.hid (show hasAt W b s i t = false by unfold hasAt; rw [hx])
                          have htn3 : decide (t < n) = false := by simp; omega
                          clear hx
                          have r_A := A.out.row
                          have o_A := A.out.open
                          have l_A := A.out.lt
                          have c_A := A.out.cell
                          have z_A := A.out.frozen
                          refine region_sq (fun _ => False) [(0, true), (1, true), (2, true), (3, true), (4, true), (5, true), (6, true), (7, true), (8, true), (9, true), (10, true), (11, true), (12, true), (13, true), (14, true)] (by kernel_rfl) (by kernel_rfl) (fun _ _ d _ _ h => by cases d <;> exact h) ?_
                          repeat (first
                            | (refine sq_yes rfl (by rfl) (fun w' hM => by ((try replace hM := hM.of_drew); obtain ⟨hR1, hR2, hR3⟩ := hM.rules; clear hM; go_simp; with_reducible rfl)) ?_; simp only [Act.put, List.setIfInBounds_toArray, List.set_cons_zero, List.set_cons_succ])
                            | (refine sq_no rfl (by rfl) ?_; simp only [Act.put, List.setIfInBounds_toArray, List.set_cons_zero, List.set_cons_succ]))
                          clear r_A o_A l_A c_A z_A
                          replace HG := Lib.hid HG.out.drew
                          replace HI := Lib.hid HI.out.drew
                          replace Z := Lib.hid Z.out.drew
                          replace HS := Lib.hid HS.out.drew
                          replace HR := Lib.hid HR.out.drew
                          replace A := Lib.hid A.out.drew
                          replace HB := Lib.hid HB.out.drew
                          generalize wc.drew = w6 at *
                          refine sq_end ?_
                          go_wp2_with fail
                          go_meet
                          exact ⟨by rw [← HHA.out, HC.out], HG.out, HI.out, Z.out, HS.out, HR.out, A.out, HB.out⟩
                    case rest =>
                      as_aux_lemma =>
                        clear HB HG HI Z HS HR A
                        obtain ⟨rfl, hHG_, hHI_, hZ_, hHS_, hHR_, hA_, hBel_⟩ := hcut
                        have HG := Lib.hid hHG_
                        have HI := Lib.hid hHI_
                        have Z := Lib.hid hZ_
                        have HS := Lib.hid hHS_
                        have HR := Lib.hid hHR_
                        have A := Lib.hid hA_
                        have HB := Lib.hid hBel_
                        clear hHG_ hHI_ hZ_ hHS_ hHR_ hA_ hBel_
                        clear HHA
                        have r_A := A.out.row
                        have o_A := A.out.open
                        have l_A := A.out.lt
                        have c_A := A.out.cell
                        have z_A := A.out.frozen
                        go_upto_block 4 with fail
                        clear r_A o_A l_A c_A z_A
                        go_cut [9, 14, 15, 16] (fun s9 _ _ _ wx => ∃ L' : List (Option V), GrI wx gh gl a b L' ∧ Ri w.heap.size 4 actEnc wx (some ⟨ba, oa, none⟩) len LA ∧ Sl 3 (item b) 41 wx B1 s9 (got L' (a * b)) ∧ At wx ga 38 #[.int .i64 kd, .int .i64 s, .int .i64 i, .int .i64 v] ∧ Below w.heap.size w wx ∧ Ge wx B1)
                        case first =>
                          as_aux_lemma => -- ok
                            have PC := place_cases (s := s) (i := i) (t := t) hLn HTE.out
                            have KD : kd = 1 ∨ kd = 2 ∨ (((kd == 1) = false) ∧ ((kd == 2) = false)) := by
                              by_cases h1 : kd = 1
                              · exact .inl h1
                              · by_cases h2 : kd = 2
                                · exact .inr (.inl h2)
                                · exact .inr (.inr ⟨by simpa using h1, by simpa using h2⟩)
                            have ngh : gh ≠ ga := by have h1 := e_ga.out; have h2 : B1 ≤ _ := hbs; omega
                            have ngl : gl ≠ ga := by have h1 := e_ga.out; have h2 : B1 ≤ _ := hbs; omega
                            rcases PC with PC | PC | PC
                            · rcases KD with rfl | rfl | ⟨k1, k2⟩
                              · as_aux_lemma => -- ok
                                  
                                  obtain ⟨r, y, p1, p2, hr, p3, p4, p5, p6, p7⟩ := PC
                                  obtain rfl : β = true := HBE.out.trans p1
                                  rw [p2]
                                  simp only [Option.isSome_some]
                                  have hx : W[t]? = some (r, y) := by rw [HWW.out, p7]; exact got_some_at L r _ y hr p6
                                  have htn3 : t < n := by rw [HN.out]; exact (List.getElem?_eq_some_iff.1 hx).1
                                  have HX := Lib.hid hx
                                  have P5 := Lib.hid p5
                                  have P6 := Lib.hid p6
                                  have P7 := Lib.hid p7
                                  have P1 := Lib.hid p1
                                  have P2 := Lib.hid p2
                                  have P3 := Lib.hid p3
                                  have P4 := Lib.hid p4
                                  clear hx p1 p2 p3 p4 p5 p6 p7
                                  have r_A := A.out.row
                                  have o_A := A.out.open
                                  have l_A := A.out.lt
                                  have c_A := A.out.cell
                                  have z_A := A.out.frozen
                                  go_wp2_with fail
                                  clear r_A o_A l_A c_A z_A
                                  refine (Gi.set_any gh gl a b L s i v _ HG.out).mono ?_
                                  rintro e wS ⟨rfl, hm, hg⟩
                                  clear HG
                                  have HG := Lib.hid (show GrI wS gh gl a b _ from hg)
                                  replace HI := Lib.hid (HI.out.mod hm (by rintro q (rfl | rfl); exact HGH.out; exact HGL.out))
                                  replace A := Lib.hid (A.out.mod hm (by rintro (h | h); exact ngh h.symm; exact ngl h.symm))
                                  replace HB := Lib.hid (HB.out.trans (mod_below hm HB.out.size (by rintro q (rfl | rfl); exact HGH.out; exact HGL.out)))
                                  replace Z := Lib.hid (Z.out.mod hm)
                                  replace HS := Lib.hid (HS.out.modb hm (fun g hg => by rintro (rfl | rfl) <;> omega))
                                  replace HR := Lib.hid (HS.out.rd (item_len b)).1
                                  clear hm hg
                                  
                                  rw [P1.out]
                                  rw [P5.out] at HG
                                  rcases HS.out.cases with ⟨hv, _⟩ | ⟨g, c, cur, hv, hgB, hgA, hgc, _, hgs, _⟩
                                  · simp only [Value.slice.injEq] at hv; omega
                                  simp only [Value.slice.injEq] at hv
                                  obtain ⟨rfl, -, rfl⟩ := hv
                                  have htc : t * 3 + 2 < cur.size := by rw [hgs]; have := HN.out; omega
                                  have xc := hgA.cell (t * 3 + 2)
                                  rw [Array.getElem?_eq_getElem htc] at xc
                                  have xf := hgA.frozen (t * 3 + 2)
                                  have xl := hgA.lt
                                  have hga : g ≠ ga := by have h1 := NG.out g rfl; have h2 := e_ga.out; omega
                                  have hm := (Mod.refl (fun q => q = g) wS).setCell ⟨g, t * 3 + 2, none⟩ (.int .i64 v) (fun _ => rfl)
                                  have HM := Lib.hid hm
                                  have HGA := Lib.hid hga
                                  clear hm hga hgA hgs
                                  have r_A := A.out.row
                                  have o_A := A.out.open
                                  have l_A := A.out.lt
                                  have c_A := A.out.cell
                                  have z_A := A.out.frozen
                                  go_wp2_with fail
                                  clear r_A o_A l_A c_A z_A
                                  go_meet
                                  refine ⟨L.set r (some v), HG.out.mod HM.out (by omega) (by omega), HI.out.mod HM.out (by rintro q rfl; omega), ?_, A.out.mod HM.out (fun h => HGA.out h.symm), HB.out.trans (mod_below HM.out HB.out.size (by rintro q rfl; omega)), Z.out.mod HM.out⟩
                                  rw [← got_upd L r _ v y hr P6.out, ← P7.out, ← HWW.out]
                                  exact Sl.setCell (item_len b) (by omega) HX.out rfl HS.out
                                  
                              · as_aux_lemma => -- ok
                                  
                                  obtain ⟨r, y, p1, p2, hr, p3, p4, p5, p6, p7⟩ := PC
                                  obtain rfl : β = true := HBE.out.trans p1
                                  rw [p2]
                                  simp only [Option.isSome_some]
                                  have hx : W[t]? = some (r, y) := by rw [HWW.out, p7]; exact got_some_at L r _ y hr p6
                                  have htn3 : t < n := by rw [HN.out]; exact (List.getElem?_eq_some_iff.1 hx).1
                                  have HX := Lib.hid hx
                                  have P5 := Lib.hid p5
                                  have P6 := Lib.hid p6
                                  have P7 := Lib.hid p7
                                  have P1 := Lib.hid p1
                                  have P2 := Lib.hid p2
                                  have P3 := Lib.hid p3
                                  have P4 := Lib.hid p4
                                  clear hx p1 p2 p3 p4 p5 p6 p7
                                  have r_A := A.out.row
                                  have o_A := A.out.open
                                  have l_A := A.out.lt
                                  have c_A := A.out.cell
                                  have z_A := A.out.frozen
                                  go_wp2_with fail
                                  clear r_A o_A l_A c_A z_A
                                  refine (Gi.free_any gh gl a b L s i _ HG.out).mono ?_
                                  rintro e wS ⟨rfl, hm, hg⟩
                                  clear HG
                                  have HG := Lib.hid (show GrI wS gh gl a b _ from hg)
                                  replace HI := Lib.hid (HI.out.mod hm (by rintro q (rfl | rfl); exact HGH.out; exact HGL.out))
                                  replace A := Lib.hid (A.out.mod hm (by rintro (h | h); exact ngh h.symm; exact ngl h.symm))
                                  replace HB := Lib.hid (HB.out.trans (mod_below hm HB.out.size (by rintro q (rfl | rfl); exact HGH.out; exact HGL.out)))
                                  replace Z := Lib.hid (Z.out.mod hm)
                                  replace HS := Lib.hid (HS.out.modb hm (fun g hg => by rintro (rfl | rfl) <;> omega))
                                  replace HR := Lib.hid (HS.out.rd (item_len b)).1
                                  clear hm hg
                                  
                                  rw [P2.out]
                                  rw [P5.out] at HG
                                  have hnc : n ≤ cp := by have := (HS.out.rd (item_len b)).2.2; rw [← HN.out] at this; exact this
                                  obtain ⟨g, o, rfl, hgl2, hc⟩ := HR.out.2 (by omega)
                                  clear hc
                                  have hw1 : IntKind.i64.wrap ((t : Int) + 1) = ((t + 1 : Nat) : Int) := by rw [IntKind.wrap_i64]; omega
                                  have htcp : t ≤ cp := by omega
                                  have htq : t + 1 ≤ n := by omega
                                  have hs1 : ((t : Int) + 1).toNat = t + 1 := by omega
                                  have hs2 : (0 : Int) ≤ (t : Int) + 1 := by omega
                                  have hs3 : (t : Int) + 1 ≤ (n : Int) := by omega
                                  obtain ⟨Bs, hBs_⟩ : ∃ B, B = wS.heap.size := ⟨_, rfl⟩
                                  have HBQ := Lib.hid hBs_
                                  have hZB : B1 ≤ Bs := by rw [hBs_]; exact Z.out
                                  clear hBs_
                                  go_upto_region 33 with fail
                                  have r_A := A.out.row
                                  have o_A := A.out.open
                                  have l_A := A.out.lt
                                  have c_A := A.out.cell
                                  have z_A := A.out.frozen
                                  have hBsA : ga < Bs := by rw [HBQ.out]; exact A.out.lt
                                  have hBsg : g < Bs := by rw [HBQ.out]; exact hgl2
                                  have hBsg2 : ¬ Bs ≤ g := by omega
                                  have hBsA2 : ¬ Bs ≤ ga := by omega
                                  refine region_sq (fun i => Bs ≤ i) [(1, true), (2, true), (3, true), (5, true), (6, true), (7, true), (8, true), (0, false), (4, false), (9, false), (10, true)] (by kernel_rfl) (by kernel_rfl) (fun _ _ d _ _ h => by cases d <;> exact h) ?_
                                  repeat (first
                                    | (refine sq_yes rfl (by rfl) (fun w' hM => by ((try replace hM := hM.of_drew); obtain ⟨hR1, hR2, hR3⟩ := hM.rules; clear hM; go_simp; with_reducible rfl)) ?_; simp only [Act.put, List.setIfInBounds_toArray, List.set_cons_zero, List.set_cons_succ])
                                    | (refine sq_no rfl (by rfl) ?_; simp only [Act.put, List.setIfInBounds_toArray, List.set_cons_zero, List.set_cons_succ]))
                                  clear r_A o_A l_A c_A z_A
                                  clear hs1 hs2 hs3 hw1
                                  have HP := Lib.hid ((HR.out.drew.head t (by omega)).riB (B := Bs) (fun b_ o_ h_ => by simp only [Option.some.injEq, Addr.mk.injEq] at h_; omega))
                                  have hT_ := (HR.out.drew.tail_if (c := cp) (t + 1) (by omega)).riB (B := Bs) (fun b_ o_ h_ => by split at h_ <;> (simp only [Option.some.injEq, Addr.mk.injEq] at h_; omega))
                                  try simp only [Nat.zero_add] at hT_
                                  generalize (if cp = t + 1 then some _ else some _ : Option Addr) = tl at hT_ ⊢
                                  have HT := Lib.hid hT_
                                  clear hT_
                                  have HBS := Lib.hid (show Below Bs wS wS.drew from (Below.refl _ _).drew)
                                  obtain ⟨wD, hwD⟩ : ∃ wD, wD = wS.drew := ⟨_, rfl⟩
                                  rw [← hwD] at HBS HP HT ⊢
                                  have HBl := Lib.hid (show Bs ≤ wD.heap.size by rw [hwD, HBQ.out]; exact Nat.le_refl _)
                                  clear hwD
                                  refine sq_do_yes rfl (by rfl) (fun K_ hK_ => ?_)
                                  go_wp2_with fail
                                  refine ⟨(Mod.refl _ _).alloc _, ?_⟩
                                  have hA_ := at_new wD 41 (#[]) wD.heap.size rfl
                                  have hb_ := HBS.out.alloc HBl.out (.cells (#[]) 41)
                                  have hp_ := HP.out.alloc (.cells (#[]) 41)
                                  have ht_ := HT.out.alloc (.cells (#[]) 41)
                                  have hsz_ : (wD.alloc (.cells (#[]) 41)).heap.size = wD.heap.size + 1 := by simp
                                  obtain ⟨ge, hg_⟩ : ∃ g, g = wD.heap.size := ⟨_, rfl⟩
                                  obtain ⟨wv1, hw_⟩ : ∃ w, w = wD.alloc (.cells (#[]) 41) := ⟨_, rfl⟩
                                  rw [← hw_] at hA_ hb_ hp_ ht_ hsz_ ⊢
                                  rw [← hg_] at hA_ hsz_ ⊢
                                  have B_ge : Bs ≤ ge := by rw [hg_]; exact HBl.out
                                  have hl_ : Bs ≤ wv1.heap.size := Nat.le_trans HBl.out (by rw [hw_]; simp)
                                  clear hw_ hg_ HBS HP HT HBl
                                  have HBS := Lib.hid hb_
                                  have HP := Lib.hid hp_
                                  have HT := Lib.hid ht_
                                  have HBl := Lib.hid hl_
                                  clear hb_ hp_ ht_ hl_
                                  have HC := Lib.hid (Sl.of (L := []) (item_len b) hA_ B_ge rfl (by decide))
                                  have gel_ : ge < wv1.heap.size := by omega
                                  clear hA_ hsz_
                                  refine sq_do_yes rfl (by rfl) (fun K_ hK_ => ?_)
                                  refine wp_sl_app (L2 := W.take t) (n := t) (item_len b) (item_one b) Try.underlying36 infoI rfl (by decide) HC.out (HP.out.1) (by unfold maxLen; have := HN.out; simp <;> omega) (by have := HN.out; simp <;> omega) HBl.out rfl rfl rfl ?_
                                  intro v1_ wv2 hs_ hm_ ho_
                                  have hge_ := fun q hq => (HC.out.ge (g := q) hq).1
                                  refine hK_ _ _ ⟨hm_.mono (fun q _ hq => hge_ q hq), ?_⟩
                                  simp only [Act.put, List.setIfInBounds_toArray, List.set_cons_zero, List.set_cons_succ]
                                  replace HBS := Lib.hid (HBS.out.trans (mod_below hm_ HBl.out hge_))
                                  replace HP := Lib.hid (HP.out.mod hm_ hge_)
                                  replace HT := Lib.hid (HT.out.mod hm_ hge_)
                                  replace HBl := Lib.hid (Nat.le_trans HBl.out hm_.size)
                                  clear hge_ HC hm_ ho_
                                  have HC := Lib.hid hs_
                                  clear hs_
                                  refine sq_do_yes rfl (by rfl) (fun K_ hK_ => ?_)
                                  refine wp_sl_app (L2 := W.drop (t + 1)) (n := n - (t + 1)) (item_len b) (item_one b) Try.underlying36 infoI rfl (by decide) HC.out (HT.out.1) (by unfold maxLen; have := HN.out; simp <;> omega) (by have := HN.out; simp <;> omega) HBl.out rfl rfl rfl ?_
                                  intro v2_ wv3 hs_ hm_ ho_
                                  have hge_ := fun q hq => (HC.out.ge (g := q) hq).1
                                  refine hK_ _ _ ⟨hm_.mono (fun q _ hq => hge_ q hq), ?_⟩
                                  simp only [Act.put, List.setIfInBounds_toArray, List.set_cons_zero, List.set_cons_succ]
                                  replace HBS := Lib.hid (HBS.out.trans (mod_below hm_ HBl.out hge_))
                                  replace HP := Lib.hid (HP.out.mod hm_ hge_)
                                  replace HT := Lib.hid (HT.out.mod hm_ hge_)
                                  replace HBl := Lib.hid (Nat.le_trans HBl.out hm_.size)
                                  clear hge_ HC hm_ ho_
                                  have HC := Lib.hid hs_
                                  clear hs_
                                  repeat (first
                                    | (refine sq_yes rfl (by rfl) (fun w' hM => by ((try replace hM := hM.of_drew); obtain ⟨hR1, hR2, hR3⟩ := hM.rules; clear hM; go_simp; with_reducible rfl)) ?_; simp only [Act.put, List.setIfInBounds_toArray, List.set_cons_zero, List.set_cons_succ])
                                    | (refine sq_no rfl (by rfl) ?_; simp only [Act.put, List.setIfInBounds_toArray, List.set_cons_zero, List.set_cons_succ]))
                                  refine sq_end ?_
                                  have hW2 : ([] ++ W.take t) ++ W.drop (t + 1) = got (L.set r none) (a * b) := by rw [List.nil_append, HWW.out, P7.out]; exact got_del L r _ y hr P6.out
                                  go_wp2_with fail
                                  have hbe_ : Below wS.heap.size wS wv3 := by rw [← HBQ.out]; exact HBS.out
                                  go_meet
                                  refine ⟨L.set r none, HG.out.below hbe_, HI.out.below hbe_, ?_, A.out.below hbe_ A.out.lt, HB.out.trans (hbe_.mono HB.out.size), Z.out.below hbe_⟩
                                  rw [← hW2]
                                  exact HC.out.base hZB
                                  
                              · as_aux_lemma => -- ok
                                  
                                  obtain ⟨r, y, p1, p2, hr, p3, p4, p5, p6, p7⟩ := PC
                                  obtain rfl : β = true := HBE.out.trans p1
                                  rw [p2]
                                  simp only [Option.isSome_some]
                                  have hx : W[t]? = some (r, y) := by rw [HWW.out, p7]; exact got_some_at L r _ y hr p6
                                  have htn3 : t < n := by rw [HN.out]; exact (List.getElem?_eq_some_iff.1 hx).1
                                  have HX := Lib.hid hx
                                  have P5 := Lib.hid p5
                                  have P6 := Lib.hid p6
                                  have P7 := Lib.hid p7
                                  have P1 := Lib.hid p1
                                  have P2 := Lib.hid p2
                                  have P3 := Lib.hid p3
                                  have P4 := Lib.hid p4
                                  clear hx p1 p2 p3 p4 p5 p6 p7
                                  have r_A := A.out.row
                                  have o_A := A.out.open
                                  have l_A := A.out.lt
                                  have c_A := A.out.cell
                                  have z_A := A.out.frozen
                                  go_wp2_with fail
                                  clear r_A o_A l_A c_A z_A
                                  refine (Gi.get_any gh gl a b L s i _ HG.out).mono ?_
                                  rintro e w7 ⟨rfl, hb⟩
                                  have hbs : Below wc.heap.size wc w7 := step_below (by first | exact Below.refl _ _ | exact (Below.refl _ _).drew | exact (Below.refl _ _).alloc (Nat.le_refl _) _ | exact ((Below.refl _ _).alloc (Nat.le_refl _) _).drew | exact ((Below.refl _ _).drew).alloc (Nat.le_refl _) _ | exact ((Below.refl _ _).alloc (Nat.le_refl _) _).alloc (by simp) _ | exact (((Below.refl _ _).alloc (Nat.le_refl _) _).alloc (by simp) _).drew | exact (((Below.refl _ _).alloc (Nat.le_refl _) _).alloc (by simp) _).alloc (by simp; omega) _) hb
                                  try clear HBz
                                  have HBz := HB.out.size
                                  replace HB := Lib.hid (step_below HB.out hbs)
                                  replace HG := Lib.hid (HG.out.below hbs)
                                  replace HI := Lib.hid (HI.out.below hbs)
                                  replace Z := Lib.hid (Z.out.below hbs)
                                  replace HS := Lib.hid (HS.out.below hbs)
                                  replace HR := Lib.hid (HR.out.below hbs)
                                  replace A := Lib.hid (A.out.below hbs A.out.lt)
                                  clear hbs
                                  clear hb
                                  rw [P2.out]
                                  simp only [Option.isSome_some, valOf]
                                  obtain ⟨g, o, rfl, hgl2, hc⟩ := HR.out.2 (by omega)
                                  have x2 := hc t _ HX.out 2 (by omega)
                                  simp only [item, List.getElem?_cons_zero, List.getElem?_cons_succ] at x2
                                  clear hc
                                  have r_A := A.out.row
                                  have o_A := A.out.open
                                  have l_A := A.out.lt
                                  have c_A := A.out.cell
                                  have z_A := A.out.frozen
                                  go_wp2_with fail
                                  clear r_A o_A l_A c_A z_A
                                  go_meet
                                  exact ⟨L, HG.out, HI.out, (by rw [← HWW.out]; exact HS.out), A.out, HB.out, Z.out⟩
                                  
                            · rcases KD with rfl | rfl | ⟨k1, k2⟩
                              · as_aux_lemma => -- ok
                                  
                                  obtain ⟨r, p1, p2, hr, p3, p4, p5, p6, p7⟩ := PC
                                  obtain rfl : β = true := HBE.out.trans p1
                                  rw [p2]
                                  simp only [Option.isSome_none]
                                  have P5 := Lib.hid p5
                                  have P6 := Lib.hid p6
                                  have P7 := Lib.hid p7
                                  have P1 := Lib.hid p1
                                  have P2 := Lib.hid p2
                                  have P3 := Lib.hid p3
                                  have P4 := Lib.hid p4
                                  clear p1 p2 p3 p4 p5 p6 p7
                                  have r_A := A.out.row
                                  have o_A := A.out.open
                                  have l_A := A.out.lt
                                  have c_A := A.out.cell
                                  have z_A := A.out.frozen
                                  go_wp2_with fail
                                  clear r_A o_A l_A c_A z_A
                                  refine (Gi.set_any gh gl a b L s i v _ HG.out).mono ?_
                                  rintro e wS ⟨rfl, hm, hg⟩
                                  clear HG
                                  have HG := Lib.hid (show GrI wS gh gl a b _ from hg)
                                  replace HI := Lib.hid (HI.out.mod hm (by rintro q (rfl | rfl); exact HGH.out; exact HGL.out))
                                  replace A := Lib.hid (A.out.mod hm (by rintro (h | h); exact ngh h.symm; exact ngl h.symm))
                                  replace HB := Lib.hid (HB.out.trans (mod_below hm HB.out.size (by rintro q (rfl | rfl); exact HGH.out; exact HGL.out)))
                                  replace Z := Lib.hid (Z.out.mod hm)
                                  replace HS := Lib.hid (HS.out.modb hm (fun g hg => by rintro (rfl | rfl) <;> omega))
                                  replace HR := Lib.hid (HS.out.rd (item_len b)).1
                                  clear hm hg
                                  
                                  rw [P1.out]
                                  rw [P5.out] at HG
                                  have hnc : n ≤ cp := by have := (HS.out.rd (item_len b)).2.2; rw [← HN.out] at this; exact this
                                  rcases HS.out.cases with ⟨hv, hW0⟩ | ⟨g, c, cur, hv, hgB, hgA, hgc, _, hgs, _⟩
                                  · simp only [Value.slice.injEq] at hv
                                    obtain ⟨rfl, rfl, rfl⟩ := hv
                                    have ht0 : t = 0 := by omega
                                    clear htn
                                    subst ht0
                                    subst hW0
                                    obtain ⟨Bs, hBs_⟩ : ∃ B, B = wS.heap.size := ⟨_, rfl⟩
                                    have HBQ := Lib.hid hBs_
                                    have hZB : B1 ≤ Bs := by rw [hBs_]; exact Z.out
                                    clear hBs_
                                    go_upto_region 28 with fail
                                    have r_A := A.out.row
                                    have o_A := A.out.open
                                    have l_A := A.out.lt
                                    have c_A := A.out.cell
                                    have z_A := A.out.frozen
                                    have hBsA : ga < Bs := by rw [HBQ.out]; exact A.out.lt
                                    have hBsA2 : ¬ Bs ≤ ga := by omega
                                    refine region_sq_till (fun i => Bs ≤ i) [(1, true), (2, true), (3, true), (5, true), (6, true), (7, true), (8, true), (9, true), (12, true), (13, true), (14, true)] 6 (by kernel_rfl) (by kernel_rfl) (fun _ _ d _ _ h => by cases d <;> exact h) ?_
                                    repeat (first
                                      | (refine sq_yes rfl (by rfl) (fun w' hM => by ((try replace hM := hM.of_drew); obtain ⟨hR1, hR2, hR3⟩ := hM.rules; clear hM; go_simp; with_reducible rfl)) ?_; simp only [Act.put, List.setIfInBounds_toArray, List.set_cons_zero, List.set_cons_succ])
                                      | (refine sq_no rfl (by rfl) ?_; simp only [Act.put, List.setIfInBounds_toArray, List.set_cons_zero, List.set_cons_succ]))
                                    clear r_A o_A l_A c_A z_A
                                    refine sq_end ?_
                                    have HP := Lib.hid (Ri.none0 Bs 3 (item b) wS.drew none)
                                    have HT := Lib.hid (Ri.none0 Bs 3 (item b) wS.drew none)
                                    have HBS := Lib.hid (show Below Bs wS wS.drew from (Below.refl _ _).drew)
                                    obtain ⟨wD, hwD⟩ : ∃ wD, wD = wS.drew := ⟨_, rfl⟩
                                    rw [← hwD] at HBS HP HT ⊢
                                    have HBl := Lib.hid (show Bs ≤ wD.heap.size by rw [hwD, HBQ.out]; exact Nat.le_refl _)
                                    clear hwD
                                    refine any_two (n := 5) 0 10 (by kernel_rfl) ?_ ?_
                                    · refine sq_do_yes rfl (by rfl) (fun K_ hK_ => ?_)
                                      go_wp2_with fail
                                      refine ⟨(Mod.refl _ _).alloc _, ?_⟩
                                      have hA_ := at_new wD 41 (#[]) wD.heap.size rfl
                                      have hb_ := HBS.out.alloc HBl.out (.cells (#[]) 41)
                                      have hp_ := HP.out.alloc (.cells (#[]) 41)
                                      have ht_ := HT.out.alloc (.cells (#[]) 41)
                                      have hsz_ : (wD.alloc (.cells (#[]) 41)).heap.size = wD.heap.size + 1 := by simp
                                      obtain ⟨ge, hg_⟩ : ∃ g, g = wD.heap.size := ⟨_, rfl⟩
                                      obtain ⟨wv1, hw_⟩ : ∃ w, w = wD.alloc (.cells (#[]) 41) := ⟨_, rfl⟩
                                      rw [← hw_] at hA_ hb_ hp_ ht_ hsz_ ⊢
                                      rw [← hg_] at hA_ hsz_ ⊢
                                      have B_ge : Bs ≤ ge := by rw [hg_]; exact HBl.out
                                      have hl_ : Bs ≤ wv1.heap.size := Nat.le_trans HBl.out (by rw [hw_]; simp)
                                      clear hw_ hg_ HBS HP HT HBl
                                      have HBS := Lib.hid hb_
                                      have HP := Lib.hid hp_
                                      have HT := Lib.hid ht_
                                      have HBl := Lib.hid hl_
                                      clear hb_ hp_ ht_ hl_
                                      have HC := Lib.hid (Sl.of (L := []) (item_len b) hA_ B_ge rfl (by decide))
                                      have gel_ : ge < wv1.heap.size := by omega
                                      clear hA_ hsz_
                                      refine sq_end ?_
                                      refine any_two (n := 4) 4 10 (by kernel_rfl) ?_ ?_
                                      · refine sq_do_yes rfl (by rfl) (fun K_ hK_ => ?_)
                                        refine wp_sl_app (L2 := []) (n := 0) (item_len b) (item_one b) Try.underlying36 infoI rfl (by decide) HC.out (HP.out.1) (by unfold maxLen; have := HN.out; simp <;> omega) (by have := HN.out; simp <;> omega) HBl.out rfl rfl rfl ?_
                                        intro v1_ wv2 hs_ hm_ ho_
                                        have hge_ := fun q hq => (HC.out.ge (g := q) hq).1
                                        refine hK_ _ _ ⟨hm_.mono (fun q _ hq => hge_ q hq), ?_⟩
                                        simp only [Act.put, List.setIfInBounds_toArray, List.set_cons_zero, List.set_cons_succ]
                                        replace HBS := Lib.hid (HBS.out.trans (mod_below hm_ HBl.out hge_))
                                        replace HP := Lib.hid (HP.out.mod hm_ hge_)
                                        replace HT := Lib.hid (HT.out.mod hm_ hge_)
                                        replace HBl := Lib.hid (Nat.le_trans HBl.out hm_.size)
                                        clear hge_ HC hm_ ho_
                                        have HC := Lib.hid hs_
                                        clear hs_
                                        refine sq_end ?_
                                        refine any_sq (n := 3) [(10, false)] (by kernel_rfl) (fun _ _ d _ _ h => by cases d <;> exact h) ?_
                                        refine sq_do_yes rfl (by rfl) (fun K_ hK_ => ?_)
                                        go_wp2_with fail
                                        refine ⟨(Mod.refl _ _).alloc _, ?_⟩
                                        have hA_ := at_new wv2 41 (#[.int .i64 s, .int .i64 i, .int .i64 v]) wv2.heap.size rfl
                                        have hb_ := HBS.out.alloc HBl.out (.cells (#[.int .i64 s, .int .i64 i, .int .i64 v]) 41)
                                        have hp_ := HP.out.alloc (.cells (#[.int .i64 s, .int .i64 i, .int .i64 v]) 41)
                                        have ht_ := HT.out.alloc (.cells (#[.int .i64 s, .int .i64 i, .int .i64 v]) 41)
                                        have hc_ := HC.out.alloc (.cells (#[.int .i64 s, .int .i64 i, .int .i64 v]) 41)
                                        have hsz_ : (wv2.alloc (.cells (#[.int .i64 s, .int .i64 i, .int .i64 v]) 41)).heap.size = wv2.heap.size + 1 := by simp
                                        obtain ⟨gx, hg_⟩ : ∃ g, g = wv2.heap.size := ⟨_, rfl⟩
                                        obtain ⟨wv3, hw_⟩ : ∃ w, w = wv2.alloc (.cells (#[.int .i64 s, .int .i64 i, .int .i64 v]) 41) := ⟨_, rfl⟩
                                        rw [← hw_] at hA_ hb_ hp_ ht_ hc_ hsz_ ⊢
                                        rw [← hg_] at hA_ hsz_ ⊢
                                        have B_gx : Bs ≤ gx := by rw [hg_]; exact HBl.out
                                        have hl_ : Bs ≤ wv3.heap.size := Nat.le_trans HBl.out (by rw [hw_]; simp)
                                        clear hw_ hg_ HBS HP HT HBl
                                        have HBS := Lib.hid hb_
                                        have HP := Lib.hid hp_
                                        have HT := Lib.hid ht_
                                        have HBl := Lib.hid hl_
                                        clear HC
                                        have HC := Lib.hid hc_
                                        clear hc_
                                        clear hb_ hp_ ht_ hl_
                                        have HXr := Lib.hid (Rd.one (k := 3) (enc := item b) (x := (r, v)) hA_ (by rw [P3.out, P4.out]; rfl))
                                        have gxl_ : gx < wv3.heap.size := by omega
                                        clear hA_ hsz_
                                        refine sq_end ?_
                                        refine any_sq (n := 0) [(11, false), (15, false), (16, true)] (by kernel_rfl) (fun _ _ d _ _ h => by cases d <;> exact h) ?_
                                        refine sq_do_yes rfl (by rfl) (fun K_ hK_ => ?_)
                                        refine wp_sl_app (L2 := [(r, v)]) (n := 1) (item_len b) (item_one b) Try.underlying36 infoI rfl (by decide) HC.out (HXr.out) (by unfold maxLen; have := HN.out; simp <;> omega) (by have := HN.out; simp <;> omega) HBl.out rfl rfl rfl ?_
                                        intro v2_ wv4 hs_ hm_ ho_
                                        have hge_ := fun q hq => (HC.out.ge (g := q) hq).1
                                        refine hK_ _ _ ⟨hm_.mono (fun q _ hq => hge_ q hq), ?_⟩
                                        simp only [Act.put, List.setIfInBounds_toArray, List.set_cons_zero, List.set_cons_succ]
                                        replace HBS := Lib.hid (HBS.out.trans (mod_below hm_ HBl.out hge_))
                                        replace HP := Lib.hid (HP.out.mod hm_ hge_)
                                        replace HT := Lib.hid (HT.out.mod hm_ hge_)
                                        clear HXr
                                        replace HBl := Lib.hid (Nat.le_trans HBl.out hm_.size)
                                        clear hge_ HC hm_ ho_
                                        have HC := Lib.hid hs_
                                        clear hs_
                                        refine sq_do_yes rfl (by rfl) (fun K_ hK_ => ?_)
                                        refine wp_sl_app (L2 := []) (n := 0) (item_len b) (item_one b) Try.underlying36 infoI rfl (by decide) HC.out (HT.out.1) (by unfold maxLen; have := HN.out; simp <;> omega) (by have := HN.out; simp <;> omega) HBl.out rfl rfl rfl ?_
                                        intro v3_ wv5 hs_ hm_ ho_
                                        have hge_ := fun q hq => (HC.out.ge (g := q) hq).1
                                        refine hK_ _ _ ⟨hm_.mono (fun q _ hq => hge_ q hq), ?_⟩
                                        simp only [Act.put, List.setIfInBounds_toArray, List.set_cons_zero, List.set_cons_succ]
                                        replace HBS := Lib.hid (HBS.out.trans (mod_below hm_ HBl.out hge_))
                                        replace HP := Lib.hid (HP.out.mod hm_ hge_)
                                        replace HT := Lib.hid (HT.out.mod hm_ hge_)
                                        replace HBl := Lib.hid (Nat.le_trans HBl.out hm_.size)
                                        clear hge_ HC hm_ ho_
                                        have HC := Lib.hid hs_
                                        clear hs_
                                        repeat (first
                                          | (refine sq_yes rfl (by rfl) (fun w' hM => by ((try replace hM := hM.of_drew); obtain ⟨hR1, hR2, hR3⟩ := hM.rules; clear hM; go_simp; with_reducible rfl)) ?_; simp only [Act.put, List.setIfInBounds_toArray, List.set_cons_zero, List.set_cons_succ])
                                          | (refine sq_no rfl (by rfl) ?_; simp only [Act.put, List.setIfInBounds_toArray, List.set_cons_zero, List.set_cons_succ]))
                                        refine sq_end (any_end (by kernel_rfl) ?_)
                                        have hW2 : (([] ++ []) ++ [(r, v)]) ++ [] = got (L.set r (some v)) (a * b) := by have h_ := got_ins L r _ v hr (by omega) P6.out; rw [← HWW.out] at h_; simpa using h_
                                        go_wp2_with fail
                                        have hbe_ : Below wS.heap.size wS wv5 := by rw [← HBQ.out]; exact HBS.out
                                        go_meet
                                        refine ⟨L.set r (some v), HG.out.below hbe_, HI.out.below hbe_, ?_, A.out.below hbe_ A.out.lt, HB.out.trans (hbe_.mono HB.out.size), Z.out.below hbe_⟩
                                        rw [← hW2]
                                        exact HC.out.base hZB
                                      · refine sq_do_yes rfl (by rfl) (fun K_ hK_ => ?_)
                                        go_wp2_with fail
                                        refine ⟨(Mod.refl _ _).alloc _, ?_⟩
                                        have hA_ := at_new wv1 41 (#[.int .i64 s, .int .i64 i, .int .i64 v]) wv1.heap.size rfl
                                        have hb_ := HBS.out.alloc HBl.out (.cells (#[.int .i64 s, .int .i64 i, .int .i64 v]) 41)
                                        have hp_ := HP.out.alloc (.cells (#[.int .i64 s, .int .i64 i, .int .i64 v]) 41)
                                        have ht_ := HT.out.alloc (.cells (#[.int .i64 s, .int .i64 i, .int .i64 v]) 41)
                                        have hc_ := HC.out.alloc (.cells (#[.int .i64 s, .int .i64 i, .int .i64 v]) 41)
                                        have hsz_ : (wv1.alloc (.cells (#[.int .i64 s, .int .i64 i, .int .i64 v]) 41)).heap.size = wv1.heap.size + 1 := by simp
                                        obtain ⟨gx, hg_⟩ : ∃ g, g = wv1.heap.size := ⟨_, rfl⟩
                                        obtain ⟨wv2, hw_⟩ : ∃ w, w = wv1.alloc (.cells (#[.int .i64 s, .int .i64 i, .int .i64 v]) 41) := ⟨_, rfl⟩
                                        rw [← hw_] at hA_ hb_ hp_ ht_ hc_ hsz_ ⊢
                                        rw [← hg_] at hA_ hsz_ ⊢
                                        have B_gx : Bs ≤ gx := by rw [hg_]; exact HBl.out
                                        have hgg_ : ge ≠ gx := by have := gel_; omega
                                        have hl_ : Bs ≤ wv2.heap.size := Nat.le_trans HBl.out (by rw [hw_]; simp)
                                        clear hw_ hg_ HBS HP HT HBl
                                        have HBS := Lib.hid hb_
                                        have HP := Lib.hid hp_
                                        have HT := Lib.hid ht_
                                        have HBl := Lib.hid hl_
                                        clear HC
                                        have HC := Lib.hid hc_
                                        clear hc_
                                        clear hb_ hp_ ht_ hl_
                                        have HXr := Lib.hid (Rd.one (k := 3) (enc := item b) (x := (r, v)) hA_ (by rw [P3.out, P4.out]; rfl))
                                        have gxl_ : gx < wv2.heap.size := by omega
                                        clear hA_ hsz_
                                        refine sq_end ?_
                                        refine any_sq (n := 3) [(4, false)] (by kernel_rfl) (fun _ _ d _ _ h => by cases d <;> exact h) ?_
                                        refine sq_do_yes rfl (by rfl) (fun K_ hK_ => ?_)
                                        refine wp_sl_app (L2 := []) (n := 0) (item_len b) (item_one b) Try.underlying36 infoI rfl (by decide) HC.out (HP.out.1) (by unfold maxLen; have := HN.out; simp <;> omega) (by have := HN.out; simp <;> omega) HBl.out rfl rfl rfl ?_
                                        intro v1_ wv3 hs_ hm_ ho_
                                        have hge_ := fun q hq => (HC.out.ge (g := q) hq).1
                                        refine hK_ _ _ ⟨hm_.mono (fun q _ hq => hge_ q hq), ?_⟩
                                        simp only [Act.put, List.setIfInBounds_toArray, List.set_cons_zero, List.set_cons_succ]
                                        replace HBS := Lib.hid (HBS.out.trans (mod_below hm_ HBl.out hge_))
                                        replace HP := Lib.hid (HP.out.mod hm_ hge_)
                                        replace HT := Lib.hid (HT.out.mod hm_ hge_)
                                        replace HXr := Lib.hid (HXr.out.mod hm_ (fun q o_ hab_ _ hq => by simp only [Option.some.injEq, Addr.mk.injEq, Value.ownBlock] at hab_ hq; omega))
                                        replace HBl := Lib.hid (Nat.le_trans HBl.out hm_.size)
                                        clear hge_ HC hm_ ho_
                                        have HC := Lib.hid hs_
                                        clear hs_
                                        refine sq_end ?_
                                        refine any_sq (n := 0) [(11, false), (15, false), (16, true)] (by kernel_rfl) (fun _ _ d _ _ h => by cases d <;> exact h) ?_
                                        refine sq_do_yes rfl (by rfl) (fun K_ hK_ => ?_)
                                        refine wp_sl_app (L2 := [(r, v)]) (n := 1) (item_len b) (item_one b) Try.underlying36 infoI rfl (by decide) HC.out (HXr.out) (by unfold maxLen; have := HN.out; simp <;> omega) (by have := HN.out; simp <;> omega) HBl.out rfl rfl rfl ?_
                                        intro v2_ wv4 hs_ hm_ ho_
                                        have hge_ := fun q hq => (HC.out.ge (g := q) hq).1
                                        refine hK_ _ _ ⟨hm_.mono (fun q _ hq => hge_ q hq), ?_⟩
                                        simp only [Act.put, List.setIfInBounds_toArray, List.set_cons_zero, List.set_cons_succ]
                                        replace HBS := Lib.hid (HBS.out.trans (mod_below hm_ HBl.out hge_))
                                        replace HP := Lib.hid (HP.out.mod hm_ hge_)
                                        replace HT := Lib.hid (HT.out.mod hm_ hge_)
                                        clear HXr
                                        replace HBl := Lib.hid (Nat.le_trans HBl.out hm_.size)
                                        clear hge_ HC hm_ ho_
                                        have HC := Lib.hid hs_
                                        clear hs_
                                        refine sq_do_yes rfl (by rfl) (fun K_ hK_ => ?_)
                                        refine wp_sl_app (L2 := []) (n := 0) (item_len b) (item_one b) Try.underlying36 infoI rfl (by decide) HC.out (HT.out.1) (by unfold maxLen; have := HN.out; simp <;> omega) (by have := HN.out; simp <;> omega) HBl.out rfl rfl rfl ?_
                                        intro v3_ wv5 hs_ hm_ ho_
                                        have hge_ := fun q hq => (HC.out.ge (g := q) hq).1
                                        refine hK_ _ _ ⟨hm_.mono (fun q _ hq => hge_ q hq), ?_⟩
                                        simp only [Act.put, List.setIfInBounds_toArray, List.set_cons_zero, List.set_cons_succ]
                                        replace HBS := Lib.hid (HBS.out.trans (mod_below hm_ HBl.out hge_))
                                        replace HP := Lib.hid (HP.out.mod hm_ hge_)
                                        replace HT := Lib.hid (HT.out.mod hm_ hge_)
                                        replace HBl := Lib.hid (Nat.le_trans HBl.out hm_.size)
                                        clear hge_ HC hm_ ho_
                                        have HC := Lib.hid hs_
                                        clear hs_
                                        repeat (first
                                          | (refine sq_yes rfl (by rfl) (fun w' hM => by ((try replace hM := hM.of_drew); obtain ⟨hR1, hR2, hR3⟩ := hM.rules; clear hM; go_simp; with_reducible rfl)) ?_; simp only [Act.put, List.setIfInBounds_toArray, List.set_cons_zero, List.set_cons_succ])
                                          | (refine sq_no rfl (by rfl) ?_; simp only [Act.put, List.setIfInBounds_toArray, List.set_cons_zero, List.set_cons_succ]))
                                        refine sq_end (any_end (by kernel_rfl) ?_)
                                        have hW2 : (([] ++ []) ++ [(r, v)]) ++ [] = got (L.set r (some v)) (a * b) := by have h_ := got_ins L r _ v hr (by omega) P6.out; rw [← HWW.out] at h_; simpa using h_
                                        go_wp2_with fail
                                        have hbe_ : Below wS.heap.size wS wv5 := by rw [← HBQ.out]; exact HBS.out
                                        go_meet
                                        refine ⟨L.set r (some v), HG.out.below hbe_, HI.out.below hbe_, ?_, A.out.below hbe_ A.out.lt, HB.out.trans (hbe_.mono HB.out.size), Z.out.below hbe_⟩
                                        rw [← hW2]
                                        exact HC.out.base hZB
                                    · refine sq_do_yes rfl (by rfl) (fun K_ hK_ => ?_)
                                      go_wp2_with fail
                                      refine ⟨(Mod.refl _ _).alloc _, ?_⟩
                                      have hA_ := at_new wD 41 (#[.int .i64 s, .int .i64 i, .int .i64 v]) wD.heap.size rfl
                                      have hb_ := HBS.out.alloc HBl.out (.cells (#[.int .i64 s, .int .i64 i, .int .i64 v]) 41)
                                      have hp_ := HP.out.alloc (.cells (#[.int .i64 s, .int .i64 i, .int .i64 v]) 41)
                                      have ht_ := HT.out.alloc (.cells (#[.int .i64 s, .int .i64 i, .int .i64 v]) 41)
                                      have hsz_ : (wD.alloc (.cells (#[.int .i64 s, .int .i64 i, .int .i64 v]) 41)).heap.size = wD.heap.size + 1 := by simp
                                      obtain ⟨gx, hg_⟩ : ∃ g, g = wD.heap.size := ⟨_, rfl⟩
                                      obtain ⟨wv1, hw_⟩ : ∃ w, w = wD.alloc (.cells (#[.int .i64 s, .int .i64 i, .int .i64 v]) 41) := ⟨_, rfl⟩
                                      rw [← hw_] at hA_ hb_ hp_ ht_ hsz_ ⊢
                                      rw [← hg_] at hA_ hsz_ ⊢
                                      have B_gx : Bs ≤ gx := by rw [hg_]; exact HBl.out
                                      have hl_ : Bs ≤ wv1.heap.size := Nat.le_trans HBl.out (by rw [hw_]; simp)
                                      clear hw_ hg_ HBS HP HT HBl
                                      have HBS := Lib.hid hb_
                                      have HP := Lib.hid hp_
                                      have HT := Lib.hid ht_
                                      have HBl := Lib.hid hl_
                                      clear hb_ hp_ ht_ hl_
                                      have HXr := Lib.hid (Rd.one (k := 3) (enc := item b) (x := (r, v)) hA_ (by rw [P3.out, P4.out]; rfl))
                                      have gxl_ : gx < wv1.heap.size := by omega
                                      clear hA_ hsz_
                                      refine sq_end ?_
                                      refine any_sq (n := 3) [(0, false), (4, false)] (by kernel_rfl) (fun _ _ d _ _ h => by cases d <;> exact h) ?_
                                      refine sq_do_yes rfl (by rfl) (fun K_ hK_ => ?_)
                                      go_wp2_with fail
                                      refine ⟨(Mod.refl _ _).alloc _, ?_⟩
                                      have hA_ := at_new wv1 41 (#[]) wv1.heap.size rfl
                                      have hb_ := HBS.out.alloc HBl.out (.cells (#[]) 41)
                                      have hp_ := HP.out.alloc (.cells (#[]) 41)
                                      have ht_ := HT.out.alloc (.cells (#[]) 41)
                                      have hx_ := HXr.out.alloc (.cells (#[]) 41)
                                      have hsz_ : (wv1.alloc (.cells (#[]) 41)).heap.size = wv1.heap.size + 1 := by simp
                                      obtain ⟨ge, hg_⟩ : ∃ g, g = wv1.heap.size := ⟨_, rfl⟩
                                      obtain ⟨wv2, hw_⟩ : ∃ w, w = wv1.alloc (.cells (#[]) 41) := ⟨_, rfl⟩
                                      rw [← hw_] at hA_ hb_ hp_ ht_ hx_ hsz_ ⊢
                                      rw [← hg_] at hA_ hsz_ ⊢
                                      have B_ge : Bs ≤ ge := by rw [hg_]; exact HBl.out
                                      have hgg_ : ge ≠ gx := by have := gxl_; omega
                                      have hl_ : Bs ≤ wv2.heap.size := Nat.le_trans HBl.out (by rw [hw_]; simp)
                                      clear hw_ hg_ HBS HP HT HBl
                                      have HBS := Lib.hid hb_
                                      have HP := Lib.hid hp_
                                      have HT := Lib.hid ht_
                                      have HBl := Lib.hid hl_
                                      clear HXr
                                      have HXr := Lib.hid hx_
                                      clear hx_
                                      clear hb_ hp_ ht_ hl_
                                      have HC := Lib.hid (Sl.of (L := []) (item_len b) hA_ B_ge rfl (by decide))
                                      have gel_ : ge < wv2.heap.size := by omega
                                      clear hA_ hsz_
                                      refine sq_do_yes rfl (by rfl) (fun K_ hK_ => ?_)
                                      refine wp_sl_app (L2 := []) (n := 0) (item_len b) (item_one b) Try.underlying36 infoI rfl (by decide) HC.out (HP.out.1) (by unfold maxLen; have := HN.out; simp <;> omega) (by have := HN.out; simp <;> omega) HBl.out rfl rfl rfl ?_
                                      intro v1_ wv3 hs_ hm_ ho_
                                      have hge_ := fun q hq => (HC.out.ge (g := q) hq).1
                                      refine hK_ _ _ ⟨hm_.mono (fun q _ hq => hge_ q hq), ?_⟩
                                      simp only [Act.put, List.setIfInBounds_toArray, List.set_cons_zero, List.set_cons_succ]
                                      replace HBS := Lib.hid (HBS.out.trans (mod_below hm_ HBl.out hge_))
                                      replace HP := Lib.hid (HP.out.mod hm_ hge_)
                                      replace HT := Lib.hid (HT.out.mod hm_ hge_)
                                      replace HXr := Lib.hid (HXr.out.mod hm_ (fun q o_ hab_ _ hq => by simp only [Option.some.injEq, Addr.mk.injEq, Value.ownBlock] at hab_ hq; omega))
                                      replace HBl := Lib.hid (Nat.le_trans HBl.out hm_.size)
                                      clear hge_ HC hm_ ho_
                                      have HC := Lib.hid hs_
                                      clear hs_
                                      refine sq_end ?_
                                      refine any_sq (n := 0) [(11, false), (15, false), (16, true)] (by kernel_rfl) (fun _ _ d _ _ h => by cases d <;> exact h) ?_
                                      refine sq_do_yes rfl (by rfl) (fun K_ hK_ => ?_)
                                      refine wp_sl_app (L2 := [(r, v)]) (n := 1) (item_len b) (item_one b) Try.underlying36 infoI rfl (by decide) HC.out (HXr.out) (by unfold maxLen; have := HN.out; simp <;> omega) (by have := HN.out; simp <;> omega) HBl.out rfl rfl rfl ?_
                                      intro v2_ wv4 hs_ hm_ ho_
                                      have hge_ := fun q hq => (HC.out.ge (g := q) hq).1
                                      refine hK_ _ _ ⟨hm_.mono (fun q _ hq => hge_ q hq), ?_⟩
                                      simp only [Act.put, List.setIfInBounds_toArray, List.set_cons_zero, List.set_cons_succ]
                                      replace HBS := Lib.hid (HBS.out.trans (mod_below hm_ HBl.out hge_))
                                      replace HP := Lib.hid (HP.out.mod hm_ hge_)
                                      replace HT := Lib.hid (HT.out.mod hm_ hge_)
                                      clear HXr
                                      replace HBl := Lib.hid (Nat.le_trans HBl.out hm_.size)
                                      clear hge_ HC hm_ ho_
                                      have HC := Lib.hid hs_
                                      clear hs_
                                      refine sq_do_yes rfl (by rfl) (fun K_ hK_ => ?_)
                                      refine wp_sl_app (L2 := []) (n := 0) (item_len b) (item_one b) Try.underlying36 infoI rfl (by decide) HC.out (HT.out.1) (by unfold maxLen; have := HN.out; simp <;> omega) (by have := HN.out; simp <;> omega) HBl.out rfl rfl rfl ?_
                                      intro v3_ wv5 hs_ hm_ ho_
                                      have hge_ := fun q hq => (HC.out.ge (g := q) hq).1
                                      refine hK_ _ _ ⟨hm_.mono (fun q _ hq => hge_ q hq), ?_⟩
                                      simp only [Act.put, List.setIfInBounds_toArray, List.set_cons_zero, List.set_cons_succ]
                                      replace HBS := Lib.hid (HBS.out.trans (mod_below hm_ HBl.out hge_))
                                      replace HP := Lib.hid (HP.out.mod hm_ hge_)
                                      replace HT := Lib.hid (HT.out.mod hm_ hge_)
                                      replace HBl := Lib.hid (Nat.le_trans HBl.out hm_.size)
                                      clear hge_ HC hm_ ho_
                                      have HC := Lib.hid hs_
                                      clear hs_
                                      repeat (first
                                        | (refine sq_yes rfl (by rfl) (fun w' hM => by ((try replace hM := hM.of_drew); obtain ⟨hR1, hR2, hR3⟩ := hM.rules; clear hM; go_simp; with_reducible rfl)) ?_; simp only [Act.put, List.setIfInBounds_toArray, List.set_cons_zero, List.set_cons_succ])
                                        | (refine sq_no rfl (by rfl) ?_; simp only [Act.put, List.setIfInBounds_toArray, List.set_cons_zero, List.set_cons_succ]))
                                      refine sq_end (any_end (by kernel_rfl) ?_)
                                      have hW2 : (([] ++ []) ++ [(r, v)]) ++ [] = got (L.set r (some v)) (a * b) := by have h_ := got_ins L r _ v hr (by omega) P6.out; rw [← HWW.out] at h_; simpa using h_
                                      go_wp2_with fail
                                      have hbe_ : Below wS.heap.size wS wv5 := by rw [← HBQ.out]; exact HBS.out
                                      go_meet
                                      refine ⟨L.set r (some v), HG.out.below hbe_, HI.out.below hbe_, ?_, A.out.below hbe_ A.out.lt, HB.out.trans (hbe_.mono HB.out.size), Z.out.below hbe_⟩
                                      rw [← hW2]
                                      exact HC.out.base hZB
                                  · simp only [Value.slice.injEq] at hv
                                    obtain ⟨rfl, -, rfl⟩ := hv
                                    have hgl2 := hgA.lt
                                    clear hgA hgs hgc
                                    have htcp : t ≤ cp := by omega
                                    have htq : t ≤ n := by omega
                                    obtain ⟨Bs, hBs_⟩ : ∃ B, B = wS.heap.size := ⟨_, rfl⟩
                                    have HBQ := Lib.hid hBs_
                                    have hZB : B1 ≤ Bs := by rw [hBs_]; exact Z.out
                                    clear hBs_
                                    go_upto_region 28 with fail
                                    have r_A := A.out.row
                                    have o_A := A.out.open
                                    have l_A := A.out.lt
                                    have c_A := A.out.cell
                                    have z_A := A.out.frozen
                                    have hBsA : ga < Bs := by rw [HBQ.out]; exact A.out.lt
                                    have hBsg : g < Bs := by rw [HBQ.out]; exact hgl2
                                    have hBsg2 : ¬ Bs ≤ g := by omega
                                    have hBsA2 : ¬ Bs ≤ ga := by omega
                                    refine region_sq_till (fun i => Bs ≤ i) [(1, true), (2, true), (3, true), (5, true), (6, true), (7, true), (8, true), (9, true), (12, true), (13, true), (14, true)] 6 (by kernel_rfl) (by kernel_rfl) (fun _ _ d _ _ h => by cases d <;> exact h) ?_
                                    repeat (first
                                      | (refine sq_yes rfl (by rfl) (fun w' hM => by ((try replace hM := hM.of_drew); obtain ⟨hR1, hR2, hR3⟩ := hM.rules; clear hM; go_simp; with_reducible rfl)) ?_; simp only [Act.put, List.setIfInBounds_toArray, List.set_cons_zero, List.set_cons_succ])
                                      | (refine sq_no rfl (by rfl) ?_; simp only [Act.put, List.setIfInBounds_toArray, List.set_cons_zero, List.set_cons_succ]))
                                    clear r_A o_A l_A c_A z_A
                                    refine sq_end ?_
                                    have HP := Lib.hid ((HR.out.drew.head t (by omega)).riB (B := Bs) (fun b_ o_ h_ => by simp only [Option.some.injEq, Addr.mk.injEq] at h_; omega))
                                    have hT_ := (HR.out.drew.tail_if (c := cp) (t) (by omega)).riB (B := Bs) (fun b_ o_ h_ => by split at h_ <;> (simp only [Option.some.injEq, Addr.mk.injEq] at h_; omega))
                                    try simp only [Nat.zero_add] at hT_
                                    generalize (if cp = t then some _ else some _ : Option Addr) = tl at hT_ ⊢
                                    have HT := Lib.hid hT_
                                    clear hT_
                                    have HBS := Lib.hid (show Below Bs wS wS.drew from (Below.refl _ _).drew)
                                    obtain ⟨wD, hwD⟩ : ∃ wD, wD = wS.drew := ⟨_, rfl⟩
                                    rw [← hwD] at HBS HP HT ⊢
                                    have HBl := Lib.hid (show Bs ≤ wD.heap.size by rw [hwD, HBQ.out]; exact Nat.le_refl _)
                                    clear hwD
                                    refine any_two (n := 5) 0 10 (by kernel_rfl) ?_ ?_
                                    · refine sq_do_yes rfl (by rfl) (fun K_ hK_ => ?_)
                                      go_wp2_with fail
                                      refine ⟨(Mod.refl _ _).alloc _, ?_⟩
                                      have hA_ := at_new wD 41 (#[]) wD.heap.size rfl
                                      have hb_ := HBS.out.alloc HBl.out (.cells (#[]) 41)
                                      have hp_ := HP.out.alloc (.cells (#[]) 41)
                                      have ht_ := HT.out.alloc (.cells (#[]) 41)
                                      have hsz_ : (wD.alloc (.cells (#[]) 41)).heap.size = wD.heap.size + 1 := by simp
                                      obtain ⟨ge, hg_⟩ : ∃ g, g = wD.heap.size := ⟨_, rfl⟩
                                      obtain ⟨wv1, hw_⟩ : ∃ w, w = wD.alloc (.cells (#[]) 41) := ⟨_, rfl⟩
                                      rw [← hw_] at hA_ hb_ hp_ ht_ hsz_ ⊢
                                      rw [← hg_] at hA_ hsz_ ⊢
                                      have B_ge : Bs ≤ ge := by rw [hg_]; exact HBl.out
                                      have hl_ : Bs ≤ wv1.heap.size := Nat.le_trans HBl.out (by rw [hw_]; simp)
                                      clear hw_ hg_ HBS HP HT HBl
                                      have HBS := Lib.hid hb_
                                      have HP := Lib.hid hp_
                                      have HT := Lib.hid ht_
                                      have HBl := Lib.hid hl_
                                      clear hb_ hp_ ht_ hl_
                                      have HC := Lib.hid (Sl.of (L := []) (item_len b) hA_ B_ge rfl (by decide))
                                      have gel_ : ge < wv1.heap.size := by omega
                                      clear hA_ hsz_
                                      refine sq_end ?_
                                      refine any_two (n := 4) 4 10 (by kernel_rfl) ?_ ?_
                                      · refine sq_do_yes rfl (by rfl) (fun K_ hK_ => ?_)
                                        refine wp_sl_app (L2 := W.take t) (n := t) (item_len b) (item_one b) Try.underlying36 infoI rfl (by decide) HC.out (HP.out.1) (by unfold maxLen; have := HN.out; simp <;> omega) (by have := HN.out; simp <;> omega) HBl.out rfl rfl rfl ?_
                                        intro v1_ wv2 hs_ hm_ ho_
                                        have hge_ := fun q hq => (HC.out.ge (g := q) hq).1
                                        refine hK_ _ _ ⟨hm_.mono (fun q _ hq => hge_ q hq), ?_⟩
                                        simp only [Act.put, List.setIfInBounds_toArray, List.set_cons_zero, List.set_cons_succ]
                                        replace HBS := Lib.hid (HBS.out.trans (mod_below hm_ HBl.out hge_))
                                        replace HP := Lib.hid (HP.out.mod hm_ hge_)
                                        replace HT := Lib.hid (HT.out.mod hm_ hge_)
                                        replace HBl := Lib.hid (Nat.le_trans HBl.out hm_.size)
                                        clear hge_ HC hm_ ho_
                                        have HC := Lib.hid hs_
                                        clear hs_
                                        refine sq_end ?_
                                        refine any_sq (n := 3) [(10, false)] (by kernel_rfl) (fun _ _ d _ _ h => by cases d <;> exact h) ?_
                                        refine sq_do_yes rfl (by rfl) (fun K_ hK_ => ?_)
                                        go_wp2_with fail
                                        refine ⟨(Mod.refl _ _).alloc _, ?_⟩
                                        have hA_ := at_new wv2 41 (#[.int .i64 s, .int .i64 i, .int .i64 v]) wv2.heap.size rfl
                                        have hb_ := HBS.out.alloc HBl.out (.cells (#[.int .i64 s, .int .i64 i, .int .i64 v]) 41)
                                        have hp_ := HP.out.alloc (.cells (#[.int .i64 s, .int .i64 i, .int .i64 v]) 41)
                                        have ht_ := HT.out.alloc (.cells (#[.int .i64 s, .int .i64 i, .int .i64 v]) 41)
                                        have hc_ := HC.out.alloc (.cells (#[.int .i64 s, .int .i64 i, .int .i64 v]) 41)
                                        have hsz_ : (wv2.alloc (.cells (#[.int .i64 s, .int .i64 i, .int .i64 v]) 41)).heap.size = wv2.heap.size + 1 := by simp
                                        obtain ⟨gx, hg_⟩ : ∃ g, g = wv2.heap.size := ⟨_, rfl⟩
                                        obtain ⟨wv3, hw_⟩ : ∃ w, w = wv2.alloc (.cells (#[.int .i64 s, .int .i64 i, .int .i64 v]) 41) := ⟨_, rfl⟩
                                        rw [← hw_] at hA_ hb_ hp_ ht_ hc_ hsz_ ⊢
                                        rw [← hg_] at hA_ hsz_ ⊢
                                        have B_gx : Bs ≤ gx := by rw [hg_]; exact HBl.out
                                        have hl_ : Bs ≤ wv3.heap.size := Nat.le_trans HBl.out (by rw [hw_]; simp)
                                        clear hw_ hg_ HBS HP HT HBl
                                        have HBS := Lib.hid hb_
                                        have HP := Lib.hid hp_
                                        have HT := Lib.hid ht_
                                        have HBl := Lib.hid hl_
                                        clear HC
                                        have HC := Lib.hid hc_
                                        clear hc_
                                        clear hb_ hp_ ht_ hl_
                                        have HXr := Lib.hid (Rd.one (k := 3) (enc := item b) (x := (r, v)) hA_ (by rw [P3.out, P4.out]; rfl))
                                        have gxl_ : gx < wv3.heap.size := by omega
                                        clear hA_ hsz_
                                        refine sq_end ?_
                                        refine any_sq (n := 0) [(11, false), (15, false), (16, true)] (by kernel_rfl) (fun _ _ d _ _ h => by cases d <;> exact h) ?_
                                        refine sq_do_yes rfl (by rfl) (fun K_ hK_ => ?_)
                                        refine wp_sl_app (L2 := [(r, v)]) (n := 1) (item_len b) (item_one b) Try.underlying36 infoI rfl (by decide) HC.out (HXr.out) (by unfold maxLen; have := HN.out; simp <;> omega) (by have := HN.out; simp <;> omega) HBl.out rfl rfl rfl ?_
                                        intro v2_ wv4 hs_ hm_ ho_
                                        have hge_ := fun q hq => (HC.out.ge (g := q) hq).1
                                        refine hK_ _ _ ⟨hm_.mono (fun q _ hq => hge_ q hq), ?_⟩
                                        simp only [Act.put, List.setIfInBounds_toArray, List.set_cons_zero, List.set_cons_succ]
                                        replace HBS := Lib.hid (HBS.out.trans (mod_below hm_ HBl.out hge_))
                                        replace HP := Lib.hid (HP.out.mod hm_ hge_)
                                        replace HT := Lib.hid (HT.out.mod hm_ hge_)
                                        clear HXr
                                        replace HBl := Lib.hid (Nat.le_trans HBl.out hm_.size)
                                        clear hge_ HC hm_ ho_
                                        have HC := Lib.hid hs_
                                        clear hs_
                                        refine sq_do_yes rfl (by rfl) (fun K_ hK_ => ?_)
                                        refine wp_sl_app (L2 := W.drop t) (n := n - t) (item_len b) (item_one b) Try.underlying36 infoI rfl (by decide) HC.out (HT.out.1) (by unfold maxLen; have := HN.out; simp <;> omega) (by have := HN.out; simp <;> omega) HBl.out rfl rfl rfl ?_
                                        intro v3_ wv5 hs_ hm_ ho_
                                        have hge_ := fun q hq => (HC.out.ge (g := q) hq).1
                                        refine hK_ _ _ ⟨hm_.mono (fun q _ hq => hge_ q hq), ?_⟩
                                        simp only [Act.put, List.setIfInBounds_toArray, List.set_cons_zero, List.set_cons_succ]
                                        replace HBS := Lib.hid (HBS.out.trans (mod_below hm_ HBl.out hge_))
                                        replace HP := Lib.hid (HP.out.mod hm_ hge_)
                                        replace HT := Lib.hid (HT.out.mod hm_ hge_)
                                        replace HBl := Lib.hid (Nat.le_trans HBl.out hm_.size)
                                        clear hge_ HC hm_ ho_
                                        have HC := Lib.hid hs_
                                        clear hs_
                                        repeat (first
                                          | (refine sq_yes rfl (by rfl) (fun w' hM => by ((try replace hM := hM.of_drew); obtain ⟨hR1, hR2, hR3⟩ := hM.rules; clear hM; go_simp; with_reducible rfl)) ?_; simp only [Act.put, List.setIfInBounds_toArray, List.set_cons_zero, List.set_cons_succ])
                                          | (refine sq_no rfl (by rfl) ?_; simp only [Act.put, List.setIfInBounds_toArray, List.set_cons_zero, List.set_cons_succ]))
                                        refine sq_end (any_end (by kernel_rfl) ?_)
                                        have hW2 : (([] ++ W.take t) ++ [(r, v)]) ++ W.drop t = got (L.set r (some v)) (a * b) := by rw [List.nil_append, HWW.out, P7.out]; exact got_ins L r _ v hr (by omega) P6.out
                                        go_wp2_with fail
                                        have hbe_ : Below wS.heap.size wS wv5 := by rw [← HBQ.out]; exact HBS.out
                                        go_meet
                                        refine ⟨L.set r (some v), HG.out.below hbe_, HI.out.below hbe_, ?_, A.out.below hbe_ A.out.lt, HB.out.trans (hbe_.mono HB.out.size), Z.out.below hbe_⟩
                                        rw [← hW2]
                                        exact HC.out.base hZB
                                      · refine sq_do_yes rfl (by rfl) (fun K_ hK_ => ?_)
                                        go_wp2_with fail
                                        refine ⟨(Mod.refl _ _).alloc _, ?_⟩
                                        have hA_ := at_new wv1 41 (#[.int .i64 s, .int .i64 i, .int .i64 v]) wv1.heap.size rfl
                                        have hb_ := HBS.out.alloc HBl.out (.cells (#[.int .i64 s, .int .i64 i, .int .i64 v]) 41)
                                        have hp_ := HP.out.alloc (.cells (#[.int .i64 s, .int .i64 i, .int .i64 v]) 41)
                                        have ht_ := HT.out.alloc (.cells (#[.int .i64 s, .int .i64 i, .int .i64 v]) 41)
                                        have hc_ := HC.out.alloc (.cells (#[.int .i64 s, .int .i64 i, .int .i64 v]) 41)
                                        have hsz_ : (wv1.alloc (.cells (#[.int .i64 s, .int .i64 i, .int .i64 v]) 41)).heap.size = wv1.heap.size + 1 := by simp
                                        obtain ⟨gx, hg_⟩ : ∃ g, g = wv1.heap.size := ⟨_, rfl⟩
                                        obtain ⟨wv2, hw_⟩ : ∃ w, w = wv1.alloc (.cells (#[.int .i64 s, .int .i64 i, .int .i64 v]) 41) := ⟨_, rfl⟩
                                        rw [← hw_] at hA_ hb_ hp_ ht_ hc_ hsz_ ⊢
                                        rw [← hg_] at hA_ hsz_ ⊢
                                        have B_gx : Bs ≤ gx := by rw [hg_]; exact HBl.out
                                        have hgg_ : ge ≠ gx := by have := gel_; omega
                                        have hl_ : Bs ≤ wv2.heap.size := Nat.le_trans HBl.out (by rw [hw_]; simp)
                                        clear hw_ hg_ HBS HP HT HBl
                                        have HBS := Lib.hid hb_
                                        have HP := Lib.hid hp_
                                        have HT := Lib.hid ht_
                                        have HBl := Lib.hid hl_
                                        clear HC
                                        have HC := Lib.hid hc_
                                        clear hc_
                                        clear hb_ hp_ ht_ hl_
                                        have HXr := Lib.hid (Rd.one (k := 3) (enc := item b) (x := (r, v)) hA_ (by rw [P3.out, P4.out]; rfl))
                                        have gxl_ : gx < wv2.heap.size := by omega
                                        clear hA_ hsz_
                                        refine sq_end ?_
                                        refine any_sq (n := 3) [(4, false)] (by kernel_rfl) (fun _ _ d _ _ h => by cases d <;> exact h) ?_
                                        refine sq_do_yes rfl (by rfl) (fun K_ hK_ => ?_)
                                        refine wp_sl_app (L2 := W.take t) (n := t) (item_len b) (item_one b) Try.underlying36 infoI rfl (by decide) HC.out (HP.out.1) (by unfold maxLen; have := HN.out; simp <;> omega) (by have := HN.out; simp <;> omega) HBl.out rfl rfl rfl ?_
                                        intro v1_ wv3 hs_ hm_ ho_
                                        have hge_ := fun q hq => (HC.out.ge (g := q) hq).1
                                        refine hK_ _ _ ⟨hm_.mono (fun q _ hq => hge_ q hq), ?_⟩
                                        simp only [Act.put, List.setIfInBounds_toArray, List.set_cons_zero, List.set_cons_succ]
                                        replace HBS := Lib.hid (HBS.out.trans (mod_below hm_ HBl.out hge_))
                                        replace HP := Lib.hid (HP.out.mod hm_ hge_)
                                        replace HT := Lib.hid (HT.out.mod hm_ hge_)
                                        replace HXr := Lib.hid (HXr.out.mod hm_ (fun q o_ hab_ _ hq => by simp only [Option.some.injEq, Addr.mk.injEq, Value.ownBlock] at hab_ hq; omega))
                                        replace HBl := Lib.hid (Nat.le_trans HBl.out hm_.size)
                                        clear hge_ HC hm_ ho_
                                        have HC := Lib.hid hs_
                                        clear hs_
                                        refine sq_end ?_
                                        refine any_sq (n := 0) [(11, false), (15, false), (16, true)] (by kernel_rfl) (fun _ _ d _ _ h => by cases d <;> exact h) ?_
                                        refine sq_do_yes rfl (by rfl) (fun K_ hK_ => ?_)
                                        refine wp_sl_app (L2 := [(r, v)]) (n := 1) (item_len b) (item_one b) Try.underlying36 infoI rfl (by decide) HC.out (HXr.out) (by unfold maxLen; have := HN.out; simp <;> omega) (by have := HN.out; simp <;> omega) HBl.out rfl rfl rfl ?_
                                        intro v2_ wv4 hs_ hm_ ho_
                                        have hge_ := fun q hq => (HC.out.ge (g := q) hq).1
                                        refine hK_ _ _ ⟨hm_.mono (fun q _ hq => hge_ q hq), ?_⟩
                                        simp only [Act.put, List.setIfInBounds_toArray, List.set_cons_zero, List.set_cons_succ]
                                        replace HBS := Lib.hid (HBS.out.trans (mod_below hm_ HBl.out hge_))
                                        replace HP := Lib.hid (HP.out.mod hm_ hge_)
                                        replace HT := Lib.hid (HT.out.mod hm_ hge_)
                                        clear HXr
                                        replace HBl := Lib.hid (Nat.le_trans HBl.out hm_.size)
                                        clear hge_ HC hm_ ho_
                                        have HC := Lib.hid hs_
                                        clear hs_
                                        refine sq_do_yes rfl (by rfl) (fun K_ hK_ => ?_)
                                        refine wp_sl_app (L2 := W.drop t) (n := n - t) (item_len b) (item_one b) Try.underlying36 infoI rfl (by decide) HC.out (HT.out.1) (by unfold maxLen; have := HN.out; simp <;> omega) (by have := HN.out; simp <;> omega) HBl.out rfl rfl rfl ?_
                                        intro v3_ wv5 hs_ hm_ ho_
                                        have hge_ := fun q hq => (HC.out.ge (g := q) hq).1
                                        refine hK_ _ _ ⟨hm_.mono (fun q _ hq => hge_ q hq), ?_⟩
                                        simp only [Act.put, List.setIfInBounds_toArray, List.set_cons_zero, List.set_cons_succ]
                                        replace HBS := Lib.hid (HBS.out.trans (mod_below hm_ HBl.out hge_))
                                        replace HP := Lib.hid (HP.out.mod hm_ hge_)
                                        replace HT := Lib.hid (HT.out.mod hm_ hge_)
                                        replace HBl := Lib.hid (Nat.le_trans HBl.out hm_.size)
                                        clear hge_ HC hm_ ho_
                                        have HC := Lib.hid hs_
                                        clear hs_
                                        repeat (first
                                          | (refine sq_yes rfl (by rfl) (fun w' hM => by ((try replace hM := hM.of_drew); obtain ⟨hR1, hR2, hR3⟩ := hM.rules; clear hM; go_simp; with_reducible rfl)) ?_; simp only [Act.put, List.setIfInBounds_toArray, List.set_cons_zero, List.set_cons_succ])
                                          | (refine sq_no rfl (by rfl) ?_; simp only [Act.put, List.setIfInBounds_toArray, List.set_cons_zero, List.set_cons_succ]))
                                        refine sq_end (any_end (by kernel_rfl) ?_)
                                        have hW2 : (([] ++ W.take t) ++ [(r, v)]) ++ W.drop t = got (L.set r (some v)) (a * b) := by rw [List.nil_append, HWW.out, P7.out]; exact got_ins L r _ v hr (by omega) P6.out
                                        go_wp2_with fail
                                        have hbe_ : Below wS.heap.size wS wv5 := by rw [← HBQ.out]; exact HBS.out
                                        go_meet
                                        refine ⟨L.set r (some v), HG.out.below hbe_, HI.out.below hbe_, ?_, A.out.below hbe_ A.out.lt, HB.out.trans (hbe_.mono HB.out.size), Z.out.below hbe_⟩
                                        rw [← hW2]
                                        exact HC.out.base hZB
                                    · refine sq_do_yes rfl (by rfl) (fun K_ hK_ => ?_)
                                      go_wp2_with fail
                                      refine ⟨(Mod.refl _ _).alloc _, ?_⟩
                                      have hA_ := at_new wD 41 (#[.int .i64 s, .int .i64 i, .int .i64 v]) wD.heap.size rfl
                                      have hb_ := HBS.out.alloc HBl.out (.cells (#[.int .i64 s, .int .i64 i, .int .i64 v]) 41)
                                      have hp_ := HP.out.alloc (.cells (#[.int .i64 s, .int .i64 i, .int .i64 v]) 41)
                                      have ht_ := HT.out.alloc (.cells (#[.int .i64 s, .int .i64 i, .int .i64 v]) 41)
                                      have hsz_ : (wD.alloc (.cells (#[.int .i64 s, .int .i64 i, .int .i64 v]) 41)).heap.size = wD.heap.size + 1 := by simp
                                      obtain ⟨gx, hg_⟩ : ∃ g, g = wD.heap.size := ⟨_, rfl⟩
                                      obtain ⟨wv1, hw_⟩ : ∃ w, w = wD.alloc (.cells (#[.int .i64 s, .int .i64 i, .int .i64 v]) 41) := ⟨_, rfl⟩
                                      rw [← hw_] at hA_ hb_ hp_ ht_ hsz_ ⊢
                                      rw [← hg_] at hA_ hsz_ ⊢
                                      have B_gx : Bs ≤ gx := by rw [hg_]; exact HBl.out
                                      have hl_ : Bs ≤ wv1.heap.size := Nat.le_trans HBl.out (by rw [hw_]; simp)
                                      clear hw_ hg_ HBS HP HT HBl
                                      have HBS := Lib.hid hb_
                                      have HP := Lib.hid hp_
                                      have HT := Lib.hid ht_
                                      have HBl := Lib.hid hl_
                                      clear hb_ hp_ ht_ hl_
                                      have HXr := Lib.hid (Rd.one (k := 3) (enc := item b) (x := (r, v)) hA_ (by rw [P3.out, P4.out]; rfl))
                                      have gxl_ : gx < wv1.heap.size := by omega
                                      clear hA_ hsz_
                                      refine sq_end ?_
                                      refine any_sq (n := 3) [(0, false), (4, false)] (by kernel_rfl) (fun _ _ d _ _ h => by cases d <;> exact h) ?_
                                      refine sq_do_yes rfl (by rfl) (fun K_ hK_ => ?_)
                                      go_wp2_with fail
                                      refine ⟨(Mod.refl _ _).alloc _, ?_⟩
                                      have hA_ := at_new wv1 41 (#[]) wv1.heap.size rfl
                                      have hb_ := HBS.out.alloc HBl.out (.cells (#[]) 41)
                                      have hp_ := HP.out.alloc (.cells (#[]) 41)
                                      have ht_ := HT.out.alloc (.cells (#[]) 41)
                                      have hx_ := HXr.out.alloc (.cells (#[]) 41)
                                      have hsz_ : (wv1.alloc (.cells (#[]) 41)).heap.size = wv1.heap.size + 1 := by simp
                                      obtain ⟨ge, hg_⟩ : ∃ g, g = wv1.heap.size := ⟨_, rfl⟩
                                      obtain ⟨wv2, hw_⟩ : ∃ w, w = wv1.alloc (.cells (#[]) 41) := ⟨_, rfl⟩
                                      rw [← hw_] at hA_ hb_ hp_ ht_ hx_ hsz_ ⊢
                                      rw [← hg_] at hA_ hsz_ ⊢
                                      have B_ge : Bs ≤ ge := by rw [hg_]; exact HBl.out
                                      have hgg_ : ge ≠ gx := by have := gxl_; omega
                                      have hl_ : Bs ≤ wv2.heap.size := Nat.le_trans HBl.out (by rw [hw_]; simp)
                                      clear hw_ hg_ HBS HP HT HBl
                                      have HBS := Lib.hid hb_
                                      have HP := Lib.hid hp_
                                      have HT := Lib.hid ht_
                                      have HBl := Lib.hid hl_
                                      clear HXr
                                      have HXr := Lib.hid hx_
                                      clear hx_
                                      clear hb_ hp_ ht_ hl_
                                      have HC := Lib.hid (Sl.of (L := []) (item_len b) hA_ B_ge rfl (by decide))
                                      have gel_ : ge < wv2.heap.size := by omega
                                      clear hA_ hsz_
                                      refine sq_do_yes rfl (by rfl) (fun K_ hK_ => ?_)
                                      refine wp_sl_app (L2 := W.take t) (n := t) (item_len b) (item_one b) Try.underlying36 infoI rfl (by decide) HC.out (HP.out.1) (by unfold maxLen; have := HN.out; simp <;> omega) (by have := HN.out; simp <;> omega) HBl.out rfl rfl rfl ?_
                                      intro v1_ wv3 hs_ hm_ ho_
                                      have hge_ := fun q hq => (HC.out.ge (g := q) hq).1
                                      refine hK_ _ _ ⟨hm_.mono (fun q _ hq => hge_ q hq), ?_⟩
                                      simp only [Act.put, List.setIfInBounds_toArray, List.set_cons_zero, List.set_cons_succ]
                                      replace HBS := Lib.hid (HBS.out.trans (mod_below hm_ HBl.out hge_))
                                      replace HP := Lib.hid (HP.out.mod hm_ hge_)
                                      replace HT := Lib.hid (HT.out.mod hm_ hge_)
                                      replace HXr := Lib.hid (HXr.out.mod hm_ (fun q o_ hab_ _ hq => by simp only [Option.some.injEq, Addr.mk.injEq, Value.ownBlock] at hab_ hq; omega))
                                      replace HBl := Lib.hid (Nat.le_trans HBl.out hm_.size)
                                      clear hge_ HC hm_ ho_
                                      have HC := Lib.hid hs_
                                      clear hs_
                                      refine sq_end ?_
                                      refine any_sq (n := 0) [(11, false), (15, false), (16, true)] (by kernel_rfl) (fun _ _ d _ _ h => by cases d <;> exact h) ?_
                                      refine sq_do_yes rfl (by rfl) (fun K_ hK_ => ?_)
                                      refine wp_sl_app (L2 := [(r, v)]) (n := 1) (item_len b) (item_one b) Try.underlying36 infoI rfl (by decide) HC.out (HXr.out) (by unfold maxLen; have := HN.out; simp <;> omega) (by have := HN.out; simp <;> omega) HBl.out rfl rfl rfl ?_
                                      intro v2_ wv4 hs_ hm_ ho_
                                      have hge_ := fun q hq => (HC.out.ge (g := q) hq).1
                                      refine hK_ _ _ ⟨hm_.mono (fun q _ hq => hge_ q hq), ?_⟩
                                      simp only [Act.put, List.setIfInBounds_toArray, List.set_cons_zero, List.set_cons_succ]
                                      replace HBS := Lib.hid (HBS.out.trans (mod_below hm_ HBl.out hge_))
                                      replace HP := Lib.hid (HP.out.mod hm_ hge_)
                                      replace HT := Lib.hid (HT.out.mod hm_ hge_)
                                      clear HXr
                                      replace HBl := Lib.hid (Nat.le_trans HBl.out hm_.size)
                                      clear hge_ HC hm_ ho_
                                      have HC := Lib.hid hs_
                                      clear hs_
                                      refine sq_do_yes rfl (by rfl) (fun K_ hK_ => ?_)
                                      refine wp_sl_app (L2 := W.drop t) (n := n - t) (item_len b) (item_one b) Try.underlying36 infoI rfl (by decide) HC.out (HT.out.1) (by unfold maxLen; have := HN.out; simp <;> omega) (by have := HN.out; simp <;> omega) HBl.out rfl rfl rfl ?_
                                      intro v3_ wv5 hs_ hm_ ho_
                                      have hge_ := fun q hq => (HC.out.ge (g := q) hq).1
                                      refine hK_ _ _ ⟨hm_.mono (fun q _ hq => hge_ q hq), ?_⟩
                                      simp only [Act.put, List.setIfInBounds_toArray, List.set_cons_zero, List.set_cons_succ]
                                      replace HBS := Lib.hid (HBS.out.trans (mod_below hm_ HBl.out hge_))
                                      replace HP := Lib.hid (HP.out.mod hm_ hge_)
                                      replace HT := Lib.hid (HT.out.mod hm_ hge_)
                                      replace HBl := Lib.hid (Nat.le_trans HBl.out hm_.size)
                                      clear hge_ HC hm_ ho_
                                      have HC := Lib.hid hs_
                                      clear hs_
                                      repeat (first
                                        | (refine sq_yes rfl (by rfl) (fun w' hM => by ((try replace hM := hM.of_drew); obtain ⟨hR1, hR2, hR3⟩ := hM.rules; clear hM; go_simp; with_reducible rfl)) ?_; simp only [Act.put, List.setIfInBounds_toArray, List.set_cons_zero, List.set_cons_succ])
                                        | (refine sq_no rfl (by rfl) ?_; simp only [Act.put, List.setIfInBounds_toArray, List.set_cons_zero, List.set_cons_succ]))
                                      refine sq_end (any_end (by kernel_rfl) ?_)
                                      have hW2 : (([] ++ W.take t) ++ [(r, v)]) ++ W.drop t = got (L.set r (some v)) (a * b) := by rw [List.nil_append, HWW.out, P7.out]; exact got_ins L r _ v hr (by omega) P6.out
                                      go_wp2_with fail
                                      have hbe_ : Below wS.heap.size wS wv5 := by rw [← HBQ.out]; exact HBS.out
                                      go_meet
                                      refine ⟨L.set r (some v), HG.out.below hbe_, HI.out.below hbe_, ?_, A.out.below hbe_ A.out.lt, HB.out.trans (hbe_.mono HB.out.size), Z.out.below hbe_⟩
                                      rw [← hW2]
                                      exact HC.out.base hZB
                                  
                              · as_aux_lemma => -- ok
                                  
                                  obtain ⟨r, p1, p2, hr, p3, p4, p5, p6, p7⟩ := PC
                                  obtain rfl : β = true := HBE.out.trans p1
                                  rw [p2]
                                  simp only [Option.isSome_none]
                                  have P5 := Lib.hid p5
                                  have P6 := Lib.hid p6
                                  have P7 := Lib.hid p7
                                  have P1 := Lib.hid p1
                                  have P2 := Lib.hid p2
                                  have P3 := Lib.hid p3
                                  have P4 := Lib.hid p4
                                  clear p1 p2 p3 p4 p5 p6 p7
                                  have r_A := A.out.row
                                  have o_A := A.out.open
                                  have l_A := A.out.lt
                                  have c_A := A.out.cell
                                  have z_A := A.out.frozen
                                  go_wp2_with fail
                                  clear r_A o_A l_A c_A z_A
                                  refine (Gi.free_any gh gl a b L s i _ HG.out).mono ?_
                                  rintro e wS ⟨rfl, hm, hg⟩
                                  clear HG
                                  have HG := Lib.hid (show GrI wS gh gl a b _ from hg)
                                  replace HI := Lib.hid (HI.out.mod hm (by rintro q (rfl | rfl); exact HGH.out; exact HGL.out))
                                  replace A := Lib.hid (A.out.mod hm (by rintro (h | h); exact ngh h.symm; exact ngl h.symm))
                                  replace HB := Lib.hid (HB.out.trans (mod_below hm HB.out.size (by rintro q (rfl | rfl); exact HGH.out; exact HGL.out)))
                                  replace Z := Lib.hid (Z.out.mod hm)
                                  replace HS := Lib.hid (HS.out.modb hm (fun g hg => by rintro (rfl | rfl) <;> omega))
                                  replace HR := Lib.hid (HS.out.rd (item_len b)).1
                                  clear hm hg
                                  
                                  rw [P2.out]
                                  rw [P5.out] at HG
                                  rw [set_same _ _ _ P6.out] at HG
                                  simp only [Option.isSome_none]
                                  go_wp2_with fail
                                  go_meet
                                  exact ⟨L, HG.out, HI.out, (by rw [← HWW.out]; exact HS.out), A.out, HB.out, Z.out⟩
                                  
                              · as_aux_lemma => -- ok
                                  
                                  obtain ⟨r, p1, p2, hr, p3, p4, p5, p6, p7⟩ := PC
                                  obtain rfl : β = true := HBE.out.trans p1
                                  rw [p2]
                                  simp only [Option.isSome_none]
                                  have P5 := Lib.hid p5
                                  have P6 := Lib.hid p6
                                  have P7 := Lib.hid p7
                                  have P1 := Lib.hid p1
                                  have P2 := Lib.hid p2
                                  have P3 := Lib.hid p3
                                  have P4 := Lib.hid p4
                                  clear p1 p2 p3 p4 p5 p6 p7
                                  have r_A := A.out.row
                                  have o_A := A.out.open
                                  have l_A := A.out.lt
                                  have c_A := A.out.cell
                                  have z_A := A.out.frozen
                                  go_wp2_with fail
                                  clear r_A o_A l_A c_A z_A
                                  refine (Gi.get_any gh gl a b L s i _ HG.out).mono ?_
                                  rintro e w8 ⟨rfl, hb⟩
                                  have hbs : Below wc.heap.size wc w8 := step_below (by first | exact Below.refl _ _ | exact (Below.refl _ _).drew | exact (Below.refl _ _).alloc (Nat.le_refl _) _ | exact ((Below.refl _ _).alloc (Nat.le_refl _) _).drew | exact ((Below.refl _ _).drew).alloc (Nat.le_refl _) _ | exact ((Below.refl _ _).alloc (Nat.le_refl _) _).alloc (by simp) _ | exact (((Below.refl _ _).alloc (Nat.le_refl _) _).alloc (by simp) _).drew | exact (((Below.refl _ _).alloc (Nat.le_refl _) _).alloc (by simp) _).alloc (by simp; omega) _) hb
                                  try clear HBz
                                  have HBz := HB.out.size
                                  replace HB := Lib.hid (step_below HB.out hbs)
                                  replace HG := Lib.hid (HG.out.below hbs)
                                  replace HI := Lib.hid (HI.out.below hbs)
                                  replace Z := Lib.hid (Z.out.below hbs)
                                  replace HS := Lib.hid (HS.out.below hbs)
                                  replace HR := Lib.hid (HR.out.below hbs)
                                  replace A := Lib.hid (A.out.below hbs A.out.lt)
                                  clear hbs
                                  clear hb
                                  rw [P2.out]
                                  simp only [Option.isSome_none, valOf]
                                  have r_A := A.out.row
                                  have o_A := A.out.open
                                  have l_A := A.out.lt
                                  have c_A := A.out.cell
                                  have z_A := A.out.frozen
                                  go_wp2_with fail
                                  clear r_A o_A l_A c_A z_A
                                  go_meet
                                  exact ⟨L, HG.out, HI.out, (by rw [← HWW.out]; exact HS.out), A.out, HB.out, Z.out⟩
                                  
                            · rcases KD with rfl | rfl | ⟨k1, k2⟩
                              · as_aux_lemma => -- ok
                                  
                                  obtain ⟨p1, p2, p5⟩ := PC
                                  obtain rfl : β = false := HBE.out.trans p1
                                  rw [p2]
                                  simp only [Option.isSome_none]
                                  have P5 := Lib.hid p5
                                  have P1 := Lib.hid p1
                                  have P2 := Lib.hid p2
                                  clear p1 p2 p5
                                  have r_A := A.out.row
                                  have o_A := A.out.open
                                  have l_A := A.out.lt
                                  have c_A := A.out.cell
                                  have z_A := A.out.frozen
                                  go_wp2_with fail
                                  clear r_A o_A l_A c_A z_A
                                  refine (Gi.set_any gh gl a b L s i v _ HG.out).mono ?_
                                  rintro e wS ⟨rfl, hm, hg⟩
                                  clear HG
                                  have HG := Lib.hid (show GrI wS gh gl a b _ from hg)
                                  replace HI := Lib.hid (HI.out.mod hm (by rintro q (rfl | rfl); exact HGH.out; exact HGL.out))
                                  replace A := Lib.hid (A.out.mod hm (by rintro (h | h); exact ngh h.symm; exact ngl h.symm))
                                  replace HB := Lib.hid (HB.out.trans (mod_below hm HB.out.size (by rintro q (rfl | rfl); exact HGH.out; exact HGL.out)))
                                  replace Z := Lib.hid (Z.out.mod hm)
                                  replace HS := Lib.hid (HS.out.modb hm (fun g hg => by rintro (rfl | rfl) <;> omega))
                                  replace HR := Lib.hid (HS.out.rd (item_len b)).1
                                  clear hm hg
                                  
                                  rw [P1.out]
                                  rw [P5.out] at HG
                                  go_wp2_with fail
                                  go_meet
                                  exact ⟨L, HG.out, HI.out, (by rw [← HWW.out]; exact HS.out), A.out, HB.out, Z.out⟩
                                  
                              · as_aux_lemma => -- ok
                                  
                                  obtain ⟨p1, p2, p5⟩ := PC
                                  obtain rfl : β = false := HBE.out.trans p1
                                  rw [p2]
                                  simp only [Option.isSome_none]
                                  have P5 := Lib.hid p5
                                  have P1 := Lib.hid p1
                                  have P2 := Lib.hid p2
                                  clear p1 p2 p5
                                  have r_A := A.out.row
                                  have o_A := A.out.open
                                  have l_A := A.out.lt
                                  have c_A := A.out.cell
                                  have z_A := A.out.frozen
                                  go_wp2_with fail
                                  clear r_A o_A l_A c_A z_A
                                  refine (Gi.free_any gh gl a b L s i _ HG.out).mono ?_
                                  rintro e wS ⟨rfl, hm, hg⟩
                                  clear HG
                                  have HG := Lib.hid (show GrI wS gh gl a b _ from hg)
                                  replace HI := Lib.hid (HI.out.mod hm (by rintro q (rfl | rfl); exact HGH.out; exact HGL.out))
                                  replace A := Lib.hid (A.out.mod hm (by rintro (h | h); exact ngh h.symm; exact ngl h.symm))
                                  replace HB := Lib.hid (HB.out.trans (mod_below hm HB.out.size (by rintro q (rfl | rfl); exact HGH.out; exact HGL.out)))
                                  replace Z := Lib.hid (Z.out.mod hm)
                                  replace HS := Lib.hid (HS.out.modb hm (fun g hg => by rintro (rfl | rfl) <;> omega))
                                  replace HR := Lib.hid (HS.out.rd (item_len b)).1
                                  clear hm hg
                                  
                                  rw [P2.out]
                                  rw [P5.out] at HG
                                  simp only [Option.isSome_none]
                                  go_wp2_with fail
                                  go_meet
                                  exact ⟨L, HG.out, HI.out, (by rw [← HWW.out]; exact HS.out), A.out, HB.out, Z.out⟩
                                  
                              · as_aux_lemma => -- ok
                                  
                                  obtain ⟨p1, p2, p5⟩ := PC
                                  obtain rfl : β = false := HBE.out.trans p1
                                  rw [p2]
                                  simp only [Option.isSome_none]
                                  have P5 := Lib.hid p5
                                  have P1 := Lib.hid p1
                                  have P2 := Lib.hid p2
                                  clear p1 p2 p5
                                  have r_A := A.out.row
                                  have o_A := A.out.open
                                  have l_A := A.out.lt
                                  have c_A := A.out.cell
                                  have z_A := A.out.frozen
                                  go_wp2_with fail
                                  clear r_A o_A l_A c_A z_A
                                  refine (Gi.get_any gh gl a b L s i _ HG.out).mono ?_
                                  rintro e w9 ⟨rfl, hb⟩
                                  have hbs : Below wc.heap.size wc w9 := step_below (by first | exact Below.refl _ _ | exact (Below.refl _ _).drew | exact (Below.refl _ _).alloc (Nat.le_refl _) _ | exact ((Below.refl _ _).alloc (Nat.le_refl _) _).drew | exact ((Below.refl _ _).drew).alloc (Nat.le_refl _) _ | exact ((Below.refl _ _).alloc (Nat.le_refl _) _).alloc (by simp) _ | exact (((Below.refl _ _).alloc (Nat.le_refl _) _).alloc (by simp) _).drew | exact (((Below.refl _ _).alloc (Nat.le_refl _) _).alloc (by simp) _).alloc (by simp; omega) _) hb
                                  try clear HBz
                                  have HBz := HB.out.size
                                  replace HB := Lib.hid (step_below HB.out hbs)
                                  replace HG := Lib.hid (HG.out.below hbs)
                                  replace HI := Lib.hid (HI.out.below hbs)
                                  replace Z := Lib.hid (Z.out.below hbs)
                                  replace HS := Lib.hid (HS.out.below hbs)
                                  replace HR := Lib.hid (HR.out.below hbs)
                                  replace A := Lib.hid (A.out.below hbs A.out.lt)
                                  clear hbs
                                  clear hb
                                  rw [P2.out]
                                  simp only [Option.isSome_none, valOf]
                                  have r_A := A.out.row
                                  have o_A := A.out.open
                                  have l_A := A.out.lt
                                  have c_A := A.out.cell
                                  have z_A := A.out.frozen
                                  go_wp2_with fail
                                  clear r_A o_A l_A c_A z_A
                                  go_meet
                                  exact ⟨L, HG.out, HI.out, (by rw [← HWW.out]; exact HS.out), A.out, HB.out, Z.out⟩
                                  
                        case rest =>
                          as_aux_lemma => -- tail
                            clear HB HG HI HS HR A Z HTE HTR
                            obtain ⟨L', hg_, hi_, hs_, hA_, hb_, hz_⟩ := hcut
                            have hLn' : L'.length = a * b := hg_.2.2.1
                            have HG := Lib.hid hg_
                            have HI := Lib.hid hi_
                            have HS := Lib.hid hs_
                            have A := Lib.hid hA_
                            have HB := Lib.hid hb_
                            have Z := Lib.hid hz_
                            clear hg_ hi_ hs_ hA_ hb_ hz_
                            obtain ⟨ad', cp', rfl⟩ := HS.out.form
                            obtain ⟨W', hW'⟩ : ∃ W', W' = got L' (a * b) := ⟨_, rfl⟩
                            have hWn' : W'.length ≤ 4096 := by rw [hW']; exact Nat.le_trans (got_length _ _) hm
                            have HCN := Lib.hid (show cnt L' = W'.length by rw [hW']; exact (got_cnt_all L' _ hLn').symm)
                            have HCUT := Lib.hid (show cut (-1) (got L' (a * b)) = W' by rw [hW']; unfold cut; rw [if_pos (by omega)])
                            have HCUT1 := Lib.hid (show cut 1 (got L' (a * b)) = W'.take 1 by rw [hW']; unfold cut; rw [if_neg (by omega)]; rfl)
                            rw [← hW'] at HS ⊢
                            have HWW' := Lib.hid hW'
                            clear hW' HWW HN
                            obtain ⟨n', hn'⟩ : ∃ n', n' = W'.length := ⟨_, rfl⟩
                            rw [← hn'] at HS HCN hWn' ⊢
                            have HN' := Lib.hid hn'
                            clear hn' htn NG
                            
                            
                            
                            
                            
                            
                            have r_A := A.out.row
                            have o_A := A.out.open
                            have l_A := A.out.lt
                            have c_A := A.out.cell
                            have z_A := A.out.frozen
                            go_wp2_with fail
                            clear r_A o_A l_A c_A z_A
                            have HZ1 := Lib.hid Z.out
                            refine (walk_any gh gl a b L' (-1) _ HG.out h3).mono ?_
                            rintro e w10 ⟨v1, rfl, hr1, hb⟩
                            have hbs : Below wc.heap.size wc w10 := step_below (by first | exact Below.refl _ _ | exact (Below.refl _ _).drew | exact (Below.refl _ _).alloc (Nat.le_refl _) _ | exact ((Below.refl _ _).alloc (Nat.le_refl _) _).drew | exact ((Below.refl _ _).drew).alloc (Nat.le_refl _) _ | exact ((Below.refl _ _).alloc (Nat.le_refl _) _).alloc (by simp) _ | exact (((Below.refl _ _).alloc (Nat.le_refl _) _).alloc (by simp) _).drew | exact (((Below.refl _ _).alloc (Nat.le_refl _) _).alloc (by simp) _).alloc (by simp; omega) _) hb
                            try clear HBz
                            have HBz := HB.out.size
                            replace HB := Lib.hid (step_below HB.out hbs)
                            replace A := Lib.hid (A.out.below hbs A.out.lt)
                            replace HG := Lib.hid (HG.out.below hbs)
                            replace HI := Lib.hid (HI.out.below hbs)
                            replace Z := Lib.hid (Z.out.below hbs)
                            replace HS := Lib.hid (HS.out.below hbs)
                            clear hbs
                            clear hb
                            rw [HCUT.out] at hr1
                            have X1 := Lib.hid (Sl.base (b' := B1) (show Sl 3 (item b) 41 _ _ v1 W' from hr1) HZ1.out)
                            clear hr1 HZ1
                            have r_A := A.out.row
                            have o_A := A.out.open
                            have l_A := A.out.lt
                            have c_A := A.out.cell
                            have z_A := A.out.frozen
                            go_wp2_with fail
                            clear r_A o_A l_A c_A z_A
                            have HZ1 := Lib.hid Z.out
                            refine (walk_any gh gl a b L' 1 _ HG.out h3).mono ?_
                            rintro e w11 ⟨v2, rfl, hr1, hb⟩
                            have hbs : Below w10.heap.size w10 w11 := step_below (by first | exact Below.refl _ _ | exact (Below.refl _ _).drew | exact (Below.refl _ _).alloc (Nat.le_refl _) _ | exact ((Below.refl _ _).alloc (Nat.le_refl _) _).drew | exact ((Below.refl _ _).drew).alloc (Nat.le_refl _) _ | exact ((Below.refl _ _).alloc (Nat.le_refl _) _).alloc (by simp) _ | exact (((Below.refl _ _).alloc (Nat.le_refl _) _).alloc (by simp) _).drew | exact (((Below.refl _ _).alloc (Nat.le_refl _) _).alloc (by simp) _).alloc (by simp; omega) _) hb
                            try clear HBz
                            have HBz := HB.out.size
                            replace HB := Lib.hid (step_below HB.out hbs)
                            replace A := Lib.hid (A.out.below hbs A.out.lt)
                            replace HG := Lib.hid (HG.out.below hbs)
                            replace HI := Lib.hid (HI.out.below hbs)
                            replace Z := Lib.hid (Z.out.below hbs)
                            replace HS := Lib.hid (HS.out.below hbs)
                            replace X1 := Lib.hid (X1.out.below hbs)
                            clear hbs
                            clear hb
                            rw [HCUT1.out] at hr1
                            have X2 := Lib.hid (Sl.base (b' := B1) (show Sl 3 (item b) 41 _ _ v2 (W'.take 1) from hr1) HZ1.out)
                            clear hr1 HZ1
                            obtain ⟨a1, c1, rfl⟩ := X1.out.form
                            obtain ⟨a2, c2, rfl⟩ := X2.out.form
                            rw [← HN'.out] at X1 ⊢
                            obtain ⟨m', hm'⟩ : ∃ m', m' = (W'.take 1).length := ⟨_, rfl⟩
                            have hmm : m' = min 1 n' := by rw [hm', List.length_take, ← HN'.out]
                            have HMM := Lib.hid hmm
                            rw [← hm'] at X2 ⊢
                            have HM' := Lib.hid hm'
                            clear hm' hmm
                            
                            
                            go_upto_region 35 with fail
                            go_cut [239] (fun s239 wx => s239 = .bool false ∧ At wx ga 38 (#[.int .i64 kd, .int .i64 s, .int .i64 i, .int .i64 v]) ∧ GrI wx gh gl a b L' ∧ Ri w.heap.size 4 actEnc wx (some ⟨ba, oa, none⟩) len LA ∧ Ge wx B1 ∧ Sl 3 (item b) 41 wx B1 (.slice ad' n' cp') W' ∧ Sl 3 (item b) 41 wx B1 (.slice a1 n' c1) W' ∧ Sl 3 (item b) 41 wx B1 (.slice a2 m' c2) (W'.take 1) ∧ Below w.heap.size w wx)
                            case first =>
                              as_aux_lemma => -- r35
                                have r_A := A.out.row
                                have o_A := A.out.open
                                have l_A := A.out.lt
                                have c_A := A.out.cell
                                have z_A := A.out.frozen
                                go_wp2_with fail
                                clear r_A o_A l_A c_A z_A
                                refine (in_any gh a b (cnt L') _ s i _ HG.out.1).mono ?_
                                rintro e w12 ⟨rfl, hb⟩
                                have hbs : Below w11.heap.size w11 w12 := step_below (by first | exact Below.refl _ _ | exact (Below.refl _ _).drew | exact (Below.refl _ _).alloc (Nat.le_refl _) _ | exact ((Below.refl _ _).alloc (Nat.le_refl _) _).drew | exact ((Below.refl _ _).drew).alloc (Nat.le_refl _) _ | exact ((Below.refl _ _).alloc (Nat.le_refl _) _).alloc (by simp) _ | exact (((Below.refl _ _).alloc (Nat.le_refl _) _).alloc (by simp) _).drew | exact (((Below.refl _ _).alloc (Nat.le_refl _) _).alloc (by simp) _).alloc (by simp; omega) _) hb
                                try clear HBz
                                have HBz := HB.out.size
                                replace HB := Lib.hid (step_below HB.out hbs)
                                replace A := Lib.hid (A.out.below hbs A.out.lt)
                                replace HG := Lib.hid (HG.out.below hbs)
                                replace HI := Lib.hid (HI.out.below hbs)
                                replace Z := Lib.hid (Z.out.below hbs)
                                replace HS := Lib.hid (HS.out.below hbs)
                                replace X1 := Lib.hid (X1.out.below hbs)
                                replace X2 := Lib.hid (X2.out.below hbs)
                                clear hbs
                                clear hb
                                rw [← HBE.out]
                                have r_A := A.out.row
                                have o_A := A.out.open
                                have l_A := A.out.lt
                                have c_A := A.out.cell
                                have z_A := A.out.frozen
                                go_wp2_with fail
                                clear r_A o_A l_A c_A z_A
                                refine (len_any gh gl a b L' _ HG.out).mono ?_
                                rintro e w_ ⟨rfl, hw_⟩
                                obtain rfl := hw_.symm
                                clear hw_
                                rw [HCN.out]
                                have hmi : (m' : Int) = min 1 (n' : Int) := by have := HMM.out; omega
                                cases β
                                all_goals go_wp2_with fail
                                all_goals
                                  go_meet
                                  exact ⟨(congrArg Value.bool (by simp only [bne_eq_false_iff_eq]; omega)), A.out, HG.out, HI.out, Z.out, HS.out, X1.out, X2.out, HB.out⟩
                            case rest =>
                              as_aux_lemma => -- r37
                                clear HB A HG HI Z HS X1 X2
                                obtain ⟨rfl, hA_, hHG_, hHI_, hZ_, hHS_, hX1_, hX2_, hBel_⟩ := hcut
                                have A := Lib.hid hA_
                                have HG := Lib.hid hHG_
                                have HI := Lib.hid hHI_
                                have Z := Lib.hid hZ_
                                have HS := Lib.hid hHS_
                                have X1 := Lib.hid hX1_
                                have X2 := Lib.hid hX2_
                                have HB := Lib.hid hBel_
                                clear hA_ hHG_ hHI_ hZ_ hHS_ hX1_ hX2_ hBel_
                                go_wp2_with fail
                                go_loopw [19] (fun u wr => ∃ (j : Nat), u = .int .i64 j ∧ j ≤ n' ∧ At wr ga 38 (#[.int .i64 kd, .int .i64 s, .int .i64 i, .int .i64 v]) ∧ GrI wr gh gl a b L' ∧ Ri w.heap.size 4 actEnc wr (some ⟨ba, oa, none⟩) len LA ∧ Ge wr B1 ∧ Sl 3 (item b) 41 wr B1 (.slice ad' n' cp') W' ∧ Sl 3 (item b) 41 wr B1 (.slice a1 n' c1) W' ∧ Sl 3 (item b) 41 wr B1 (.slice a2 m' c2) (W'.take 1) ∧ Below w.heap.size w wr) (fun u _ => n' - (intOf u).toNat)
                                case atStart => exact ⟨0, rfl, Nat.zero_le _, A.out, HG.out, HI.out, Z.out, HS.out, X1.out, X2.out, HB.out⟩
                                case round =>
                                  clear HB A HG HI Z HS X1 X2
                                  obtain ⟨j, rfl, hj, hA_, hHG_, hHI_, hZ_, hHS_, hX1_, hX2_, hBel_⟩ := hrel
                                  have A := Lib.hid hA_
                                  have HG := Lib.hid hHG_
                                  have HI := Lib.hid hHI_
                                  have Z := Lib.hid hZ_
                                  have HS := Lib.hid hHS_
                                  have X1 := Lib.hid hX1_
                                  have X2 := Lib.hid hX2_
                                  have HB := Lib.hid hBel_
                                  clear hA_ hHG_ hHI_ hZ_ hHS_ hX1_ hX2_ hBel_
                                  by_cases hjn : j < n'
                                  · have t2 := guardI
                                    have t4 := neqI
                                    obtain ⟨g1, o1, rfl, lg1, hc1⟩ := (X1.out.rd (item_len b)).1.2 (by omega)
                                    obtain ⟨g2, o2, rfl, lg2, hc2⟩ := (HS.out.rd (item_len b)).1.2 (by omega)
                                    
                                    
                                    obtain ⟨x, hx⟩ : ∃ x, W'[j]? = some x := ⟨_, List.getElem?_eq_getElem (by rw [← HN'.out]; exact hjn)⟩
                                    have x0 := hc1 j x hx 0 (by omega)
                                    have x1 := hc1 j x hx 1 (by omega)
                                    have x2 := hc1 j x hx 2 (by omega)
                                    have y0 := hc2 j x hx 0 (by omega)
                                    have y1 := hc2 j x hx 1 (by omega)
                                    have y2 := hc2 j x hx 2 (by omega)
                                    simp only [item, List.getElem?_cons_zero, List.getElem?_cons_succ, Nat.add_zero] at x0 x1 x2 y0 y1 y2
                                    clear hc1 hc2
                                    by_cases hjm : j < m'
                                    · obtain ⟨g3, o3, rfl, lg3, hc3⟩ := (X2.out.rd (item_len b)).1.2 (by omega)
                                      have hx3 : (W'.take 1)[j]? = some x := by
                                        have := HMM.out
                                        rw [List.getElem?_take, if_pos (by omega)]; exact hx
                                      have z0 := hc3 j x hx3 0 (by omega)
                                      have z1 := hc3 j x hx3 1 (by omega)
                                      have z2 := hc3 j x hx3 2 (by omega)
                                      simp only [item, List.getElem?_cons_zero, List.getElem?_cons_succ, Nat.add_zero] at z0 z1 z2
                                      clear hc3 hx3 hx
                                      
                                      go_wp2_with fail
                                      have r_A := A.out.row
                                      have o_A := A.out.open
                                      have l_A := A.out.lt
                                      have c_A := A.out.cell
                                      have z_A := A.out.frozen
                                      refine region_sq (fun _ => False) [(0, true), (1, true), (2, true), (3, true), (4, true), (5, true), (6, true), (7, true), (8, true), (9, true), (10, true), (11, true), (12, true), (13, true), (14, true), (15, true), (16, true), (17, true), (18, true), (19, true), (20, true), (21, true), (22, true), (23, true), (24, true), (25, true)] (by kernel_rfl) (by kernel_rfl) (fun _ _ d _ _ h => by cases d <;> exact h) ?_
                                      repeat (first
                                        | (refine sq_yes rfl (by rfl) (fun w' hM => by ((try replace hM := hM.of_drew); obtain ⟨hR1, hR2, hR3⟩ := hM.rules; clear hM; go_simp; with_reducible rfl)) ?_; simp only [Act.put, List.setIfInBounds_toArray, List.set_cons_zero, List.set_cons_succ])
                                        | (refine sq_no rfl (by rfl) ?_; simp only [Act.put, List.setIfInBounds_toArray, List.set_cons_zero, List.set_cons_succ]))
                                      clear r_A o_A l_A c_A z_A
                                      replace A := Lib.hid A.out.drew
                                      replace HG := Lib.hid HG.out.drew
                                      replace HI := Lib.hid HI.out.drew
                                      replace Z := Lib.hid Z.out.drew
                                      replace HS := Lib.hid HS.out.drew
                                      replace X1 := Lib.hid X1.out.drew
                                      replace X2 := Lib.hid X2.out.drew
                                      replace HB := Lib.hid HB.out.drew
                                      generalize wr.drew = w13 at *
                                      refine sq_end ?_
                                      go_wp2_with fail
                                      go_roundw
                                      case rel => exact ⟨j + 1, by go_num, by omega, A.out, HG.out, HI.out, Z.out, HS.out, X1.out, X2.out, HB.out⟩
                                      case measure => simp [intOf] <;> omega
                                    · have hjm2 : decide (j < m') = false := by simp; omega
                                      clear hx
                                      
                                      go_wp2_with fail
                                      have r_A := A.out.row
                                      have o_A := A.out.open
                                      have l_A := A.out.lt
                                      have c_A := A.out.cell
                                      have z_A := A.out.frozen
                                      refine region_sq (fun _ => False) [(0, true), (1, true), (2, true), (3, true), (4, true), (5, true), (6, true), (7, true), (8, true), (9, true), (10, true), (11, true), (12, true), (13, true), (14, true), (15, true), (16, true), (17, true), (18, true), (19, true), (20, true), (21, true), (22, true), (23, true), (24, true), (25, true)] (by kernel_rfl) (by kernel_rfl) (fun _ _ d _ _ h => by cases d <;> exact h) ?_
                                      repeat (first
                                        | (refine sq_yes rfl (by rfl) (fun w' hM => by ((try replace hM := hM.of_drew); obtain ⟨hR1, hR2, hR3⟩ := hM.rules; clear hM; go_simp; with_reducible rfl)) ?_; simp only [Act.put, List.setIfInBounds_toArray, List.set_cons_zero, List.set_cons_succ])
                                        | (refine sq_no rfl (by rfl) ?_; simp only [Act.put, List.setIfInBounds_toArray, List.set_cons_zero, List.set_cons_succ]))
                                      clear r_A o_A l_A c_A z_A
                                      replace A := Lib.hid A.out.drew
                                      replace HG := Lib.hid HG.out.drew
                                      replace HI := Lib.hid HI.out.drew
                                      replace Z := Lib.hid Z.out.drew
                                      replace HS := Lib.hid HS.out.drew
                                      replace X1 := Lib.hid X1.out.drew
                                      replace X2 := Lib.hid X2.out.drew
                                      replace HB := Lib.hid HB.out.drew
                                      generalize wr.drew = w14 at *
                                      refine sq_end ?_
                                      go_wp2_with fail
                                      go_roundw
                                      case rel => exact ⟨j + 1, by go_num, by omega, A.out, HG.out, HI.out, Z.out, HS.out, X1.out, X2.out, HB.out⟩
                                      case measure => simp [intOf] <;> omega
                                  · obtain rfl : j = n' := by omega
                                    go_wp2_with fail
                                    go_roundw
                                    case rel => exact ⟨k + 1, L', by omega, by go_num, HG.out, HI.out, by rw [← HWW'.out]; exact HS.out, HB.out, Z.out⟩
                                    case measure => simp [intOf] <;> omega
                  · skip
                    
                    have HTE := Lib.hid (fun hp : pin a b s i = true => cont_yes (l := L) h3 hp hLn (HTR.out (HBE.out.trans hp)) (by rw [← HWW.out]; exact hc))
                    have htn3 : t < n := by
                      rcases Nat.lt_or_ge t n with h | h
                      · exact h
                      · rw [show cont W b s i t = false by unfold cont; rw [List.getElem?_eq_none (by rw [← HN.out]; omega)]] at hc; cases hc
                    clear hc
                    go_wp2_with fail
                    go_roundw
                    case rel => exact ⟨t + 1, by go_num, by omega, fun hp => HTE.out (HBE.out.symm.trans hp), HG.out, HI.out, Z.out, HS.out, HR.out, A.out, HB.out⟩
                    case measure => simp [intOf] <;> omega
      · obtain rfl : k = len := by omega
        go_wp2_with fail
        refine (awake_any _).mono ?_
        rintro e w7 ⟨rfl, hb⟩
        have HB7 := Lib.hid (HB.out.trans (hb.mono HB.out.size))
        clear hb
        go_wp2_with fail
        go_ret
        exact ⟨rfl, HB7.out⟩
end Gi
end Go.Proofs.Ytjlgkljifpjehaa
