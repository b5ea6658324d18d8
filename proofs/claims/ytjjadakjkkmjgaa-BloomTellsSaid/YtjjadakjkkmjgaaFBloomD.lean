/-
  bloom: Insert.
-/
import Derived.Test.YtjjadakjkkmjgaaFBloomC
namespace Go.Proofs.Ytjjadakjkkmjgaa
open Go.RowKit
def insW (ws : List Nat) (p : Nat) : List Nat := ws.set (p / 64) (ws.getD (p / 64) 0 ||| 2 ^ (p % 64))
def insAll (ws L : List Nat) : List Nat := L.foldl insW ws
theorem insW_length (ws : List Nat) (p : Nat) : (insW ws p).length = ws.length := by simp [insW]
theorem insAll_length : ∀ (L ws : List Nat), (insAll ws L).length = ws.length
  | [], _ => rfl
  | p :: r, ws => by show (insAll (insW ws p) r).length = _; rw [insAll_length r, insW_length]
theorem insAll_snoc (ws L : List Nat) (p : Nat) : insAll ws (L ++ [p]) = insW (insAll ws L) p := by simp [insAll, List.foldl_append]
theorem insW_lt (ws : List Nat) (p : Nat) (h : ∀ x ∈ ws, x < 18446744073709551616) : ∀ x ∈ insW ws p, x < 18446744073709551616 := by
  intro x hx
  unfold insW at hx
  rcases List.mem_or_eq_of_mem_set hx with h1 | rfl
  · exact h x h1
  · have h1 := getD_lt ws (p / 64) h
    have h2 : 2 ^ (p % 64) < 2 ^ 64 := Nat.pow_lt_pow_right (by omega) (Nat.mod_lt _ (by omega))
    exact Nat.or_lt_two_pow (n := 64) (by omega) h2
theorem insAll_lt : ∀ (L ws : List Nat), (∀ x ∈ ws, x < 18446744073709551616) → ∀ x ∈ insAll ws L, x < 18446744073709551616
  | [], _, h => h
  | p :: r, ws, h => insAll_lt r (insW ws p) (insW_lt ws p h)
theorem bt_insW (ws : List Nat) (q p : Nat) (h : q / 64 < ws.length) : bt (insW ws q) p = (decide (p = q) || bt ws p) := by
  unfold bt insW
  by_cases e : p / 64 = q / 64
  · have e1 : (ws.set (q / 64) (ws.getD (q / 64) 0 ||| 2 ^ (q % 64))).getD (p / 64) 0 = ws.getD (q / 64) 0 ||| 2 ^ (q % 64) := by
      rw [e, List.getD_eq_getElem?_getD, List.getElem?_set_self h]; rfl
    rw [e1, e, Nat.testBit_or, Nat.testBit_two_pow, Bool.or_comm]
    congr 1
    rw [decide_eq_decide]
    omega
  · have e1 : (ws.set (q / 64) (ws.getD (q / 64) 0 ||| 2 ^ (q % 64))).getD (p / 64) 0 = ws.getD (p / 64) 0 := by
      simp only [List.getD_eq_getElem?_getD]
      rw [List.getElem?_set_ne (Ne.symm e)]
    have e2 : decide (p = q) = false := by simp; intro h; exact e (by rw [h])
    rw [e1, e2, Bool.false_or]
theorem bt_insAll : ∀ (L ws : List Nat) (p : Nat), (∀ q ∈ L, q / 64 < ws.length) → bt (insAll ws L) p = (decide (p ∈ L) || bt ws p)
  | [], ws, p, _ => by simp [insAll]
  | q :: r, ws, p, h => by
    show bt (insAll (insW ws q) r) p = _
    rw [bt_insAll r (insW ws q) p (fun x hx => by rw [insW_length]; exact h x (by simp [hx])), bt_insW ws q p (h q (by simp))]
    by_cases h1 : p = q <;> by_cases h2 : p ∈ r <;> simp [h1, h2]
theorem anew_step (ws L : List Nat) (t : Nat) (ht : t < L.length) (hl : ∀ q ∈ L, q / 64 < ws.length) :
    (!(L.take t).all (bt ws) || !bt (insAll ws (L.take t)) (L.getD t 0)) = !(L.take (t + 1)).all (bt ws) := by
  rw [bt_insAll _ _ _ (fun q hq => hl q (List.mem_of_mem_take hq)), List.take_succ_eq_append_getElem ht, List.all_append]
  have e : L.getD t 0 = L[t] := by rw [List.getD_eq_getElem?_getD, List.getElem?_eq_getElem ht]; rfl
  rw [e]
  cases ha : (L.take t).all (bt ws)
  · simp
  · by_cases hm : L[t] ∈ L.take t
    · have := (List.all_eq_true.1 ha) _ hm
      simp [hm, this]
    · simp [hm]
theorem or_fact (x r P : Nat) (hx : x < 18446744073709551616) (hr : r < 64) (hP : P = 2 ^ r) : IntKind.u64.wrap ((2 : Int) ^ r) = (P : Int) ∧ bits .or .u64 (x : Int) (P : Int) = ((x ||| P : Nat) : Int) := by
  have h2 : 2 ^ r < 2 ^ 64 := Nat.pow_lt_pow_right (by omega) hr
  rw [← hP] at h2
  refine ⟨?_, u64_or_nat _ _ hx (by omega)⟩
  rw [IntKind.wrap_u64, show ((2 : Int) ^ r) = (P : Int) by rw [hP]; simp]
  omega
set_option maxRecDepth 100000 in
set_option maxHeartbeats 4000000 in
theorem insert_any (gb gw gf : Nat) (c : Cf) (k : Ky) (N n : Nat) (ws : List Nat) (w : World) (hB : At w gb 92 (bcs gf N gw n)) (hW : At w gw 86 (wd ws)) (hF : At w gf 80 (fc c)) (hbw : gb ≠ gw) (hN : 1 ≤ N) (hN2 : N ≤ 65536) (hn : n = nw N) (hl : ws.length = n) (hx : ∀ x ∈ ws, x < 18446744073709551616) (h1 : 0 ≤ c.hashes) (h2 : c.hashes ≤ 80) (hb1 : 1 ≤ c.bloom) :
    Calls Try.prog 32 #[.pointer (some ⟨gb, 0, none⟩), .agg (kc k)] w fun e w' => e = .returned (.bool (!(pN c k N).all (bt ws))) ∧ At w' gw 86 (wd (insAll ws (pN c k N))) ∧ Mod (fun i => i = gw) w w' := by
  have B := Lib.hid hB
  have F := Lib.hid hF
  have Wd := Lib.hid hW
  have hNn : N ≤ n * 64 ∧ n ≤ 1024 := by rw [hn]; unfold nw; omega
  have HX := Lib.hid hx
  have HLT := Lib.hid (pN_lt c k N hN)
  have HL := Lib.hid (pN_length c k N h2)
  have HLL := Lib.hid hl
  have hlw := hW.lt
  clear hB hW hF hx hn hl
  go_enter Try.func32, Try.ntmps32
  have HB := Lib.hid (Mod.refl (fun i => i = gw) w)
  
  
  
  go_wp2_with fail
  have HBp := HB
  have K := at_new w 40 (kc k) (w.heap.size) rfl
  replace HB := Lib.hid (HB.out.alloc (.cells (kc k) 40))
  have Bp := B
  replace B := Lib.hid (B.out.alloc (.cells (kc k) 40))
  have Fp := F
  replace F := Lib.hid (F.out.alloc (.cells (kc k) 40))
  have Wdp := Wd
  replace Wd := Lib.hid (Wd.out.alloc (.cells (kc k) 40))
  obtain ⟨gk, hg⟩ : ∃ g, g = w.heap.size := ⟨_, rfl⟩
  have hgs : gk = w.heap.size := by rw [hg]
  have b_gk : w.heap.size ≤ gk := by rw [hgs]; exact HBp.out.size
  have S_w1 := Lib.hid (show (w.alloc (.cells (kc k) 40)).heap.size = gk + 1 by rw [World.size_alloc, hgs])
  rw [← hg] at K
  try rw [← hg]
  have ne_B_K : gb ≠ gk := by have := Bp.out.lt; omega
  have ne_K_B : gk ≠ gb := fun h => ne_B_K h.symm
  have ne_F_K : gf ≠ gk := by have := Fp.out.lt; omega
  have ne_K_F : gk ≠ gf := fun h => ne_F_K h.symm
  have ne_Wd_K : gw ≠ gk := by have := Wdp.out.lt; omega
  have ne_K_Wd : gk ≠ gw := fun h => ne_Wd_K h.symm
  clear hg hgs HBp Bp Fp Wdp
  replace K := Lib.hid K
  generalize w.alloc (.cells (kc k) 40) = w1 at *
  have r_B := B.out.row
  have o_B := B.out.open
  have l_B := B.out.lt
  have c_B := B.out.cell
  have z_B := B.out.frozen
  have r_F := F.out.row
  have o_F := F.out.open
  have l_F := F.out.lt
  have c_F := F.out.cell
  have z_F := F.out.frozen
  have r_Wd := Wd.out.row
  have o_Wd := Wd.out.open
  have l_Wd := Wd.out.lt
  have c_Wd := Wd.out.cell
  have z_Wd := Wd.out.frozen
  have r_K := K.out.row
  have o_K := K.out.open
  have l_K := K.out.lt
  have c_K := K.out.cell
  have z_K := K.out.frozen
  go_wp2_with fail
  clear r_B o_B l_B c_B z_B r_F o_F l_F c_F z_F r_Wd o_Wd l_Wd c_Wd z_Wd r_K o_K l_K c_K z_K
  refine (places_n gb gw n gf c k N _ B.out F.out hN hN2 h1 h2 hb1).mono ?_
  rintro e w2 ⟨a, m, q, rfl, hm, hy, hfr, hb⟩
  have hbs : Below w1.heap.size w1 w2 := step_below (by first | exact Below.refl _ _ | exact (Below.refl _ _).drew | exact (Below.refl _ _).alloc (Nat.le_refl _) _ | exact ((Below.refl _ _).alloc (Nat.le_refl _) _).drew | exact ((Below.refl _ _).drew).alloc (Nat.le_refl _) _ | exact ((Below.refl _ _).alloc (Nat.le_refl _) _).alloc (by simp) _ | exact (((Below.refl _ _).alloc (Nat.le_refl _) _).alloc (by simp) _).drew | exact (((Below.refl _ _).alloc (Nat.le_refl _) _).alloc (by simp) _).alloc (by simp; omega) _) hb
  try clear HBz
  have HBz := HB.out.size
  replace HB := Lib.hid (HB.out.trans (Mod.of_below hbs))
  replace B := Lib.hid (B.out.below hbs B.out.lt)
  replace F := Lib.hid (F.out.below hbs F.out.lt)
  replace Wd := Lib.hid (Wd.out.below hbs Wd.out.lt)
  replace K := Lib.hid (K.out.below hbs K.out.lt)
  clear hbs
  clear hb
  have Y := Lib.hid hy
  have M := Lib.hid hm
  have hm80 : m ≤ 80 := by have := HL.out; omega
  clear hm hy
  have FR := Lib.hid (fun b o (h : a = some ⟨b, o, none⟩) => show ¬ b = gw by have := hfr b o h; omega)
  clear hfr
  obtain ⟨L, hLe⟩ : ∃ L, L = pN c k N := ⟨_, rfl⟩
  rw [← hLe] at Y M HL HLT
  have HLE := Lib.hid hLe
  have HLW := Lib.hid (show ∀ q ∈ L, q / 64 < ws.length by intro q hq; have := HLT.out q hq; rw [HLL.out]; omega)
  clear hLe
  go_wp2_with fail
  clear F K
  go_loopw [4, 6, 11] (fun an _ i wr => ∃ t : Nat, t ≤ m ∧ i = .int .i64 t ∧ an = .bool (!(L.take t).all (bt ws)) ∧ At wr gb 92 (bcs gf N gw n) ∧ At wr gw 86 (wd (insAll ws (L.take t))) ∧ Ints wr a m (L.map fun p : Nat => (p : Int)) ∧ Mod (fun i => i = gw) w wr) (fun _ _ i _ => m - (intOf i).toNat)
  case atStart => exact ⟨0, Nat.zero_le _, rfl, rfl, B.out, Wd.out, Y.out, HB.out⟩
  case round =>
    obtain ⟨t, ht, rfl, rfl, hB_, hWd_, hY_, hBel_⟩ := hrel
    have B := Lib.hid hB_
    have Wd := Lib.hid hWd_
    have Y := Lib.hid hY_
    have HB := Lib.hid hBel_
    clear hB_ hWd_ hY_ hBel_
    by_cases hlt : t < m
    · have htl : t < L.length := by rw [← M.out]; exact hlt
      have hYb := Y.out.2 (by omega)
      obtain ⟨b, o, hab, lb, hc⟩ := hYb
      have hbg := FR.out b o hab
      subst hab
      have x0 := hc t hlt
      rw [cast_get] at x0
      have AS := Lib.hid (anew_step ws L t htl HLW.out)
      have IS := Lib.hid (show insW (insAll ws (L.take t)) (L.getD t 0) = insAll ws (L.take (t + 1)) by
        rw [List.take_succ_eq_append_getElem htl, insAll_snoc]
        congr 1
        rw [List.getD_eq_getElem?_getD, List.getElem?_eq_getElem htl]; rfl)
      have HX2 := Lib.hid (insAll_lt (L.take t) ws HX.out)
      have HL2 := Lib.hid (show (insAll ws (L.take t)).length = n by rw [insAll_length]; exact HLL.out)
      obtain ⟨p, hp⟩ : ∃ p, p = L.getD t 0 := ⟨_, rfl⟩
      rw [← hp] at x0 AS IS
      have hpN : p < N := by rw [hp]; exact HLT.out _ (getD_mem L t htl)
      clear hc hp
      obtain ⟨wt, hwt⟩ : ∃ wt, wt = insAll ws (L.take t) := ⟨_, rfl⟩
      rw [← hwt] at AS IS HX2 HL2 Wd
      obtain ⟨j, hj⟩ : ∃ j, j = p / 64 := ⟨_, rfl⟩
      obtain ⟨r, hr⟩ : ∃ r, r = p % 64 := ⟨_, rfl⟩
      obtain ⟨x, hx⟩ : ∃ x, x = wt.getD j 0 := ⟨_, rfl⟩
      obtain ⟨P, hP⟩ : ∃ P, P = 2 ^ r := ⟨_, rfl⟩
      have hjn : j < n := by omega
      have hwd := wd_get wt j (by rw [HL2.out]; exact hjn)
      rw [← hx] at hwd
      have IW := Lib.hid (show insW wt p = wt.set j (x ||| P) by unfold insW; rw [← hj, ← hr, ← hx, ← hP])
      have hor := or_fact x r P (by rw [hx]; exact getD_lt wt j HX2.out) (by omega) hP
      have o1 := hor.1
      have o2 := hor.2
      have q1 : (p : Int) / 64 = (j : Int) := by omega
      have q2 : (p : Int) % 64 = (r : Int) := by omega
      have q3 : min r 64 = r := by omega
      have Q5 := Lib.hid (show (p : Int).tmod 64 = (r : Int) by rw [Int.tmod_eq_emod_of_nonneg (Int.natCast_nonneg p)]; omega)
      have Q4 := Lib.hid (show IntKind.i64.wrap (j : Int) = (j : Int) by rw [IntKind.wrap_i64]; omega)
      clear hwt hj hr hx hP hor
      have KS := Lib.hid (fun w hb hw => set_any gb gw gf N n p wt w hb hw hNn.2 HL2.out (by omega) HX2.out)
      have OO := Lib.hid (And.intro o1 o2)
      clear o1 o2
      cases han : (L.take t).all (bt ws)
      · rw [han] at AS
        
        have o1 := OO.out.1
        have o2 := OO.out.2
        have r_B := B.out.row
        have o_B := B.out.open
        have l_B := B.out.lt
        have c_B := B.out.cell
        have z_B := B.out.frozen
        have r_Wd := Wd.out.row
        have o_Wd := Wd.out.open
        have l_Wd := Wd.out.lt
        have c_Wd := Wd.out.cell
        have z_Wd := Wd.out.frozen
        go_wp2_with fail
        clear r_B o_B l_B c_B z_B r_Wd o_Wd l_Wd c_Wd z_Wd
        have q4 := Q4.out
        have q5 := Q5.out
        have r_B := B.out.row
        have o_B := B.out.open
        have l_B := B.out.lt
        have c_B := B.out.cell
        have z_B := B.out.frozen
        have r_Wd := Wd.out.row
        have o_Wd := Wd.out.open
        have l_Wd := Wd.out.lt
        have c_Wd := Wd.out.cell
        have z_Wd := Wd.out.frozen
        refine region_sq2 (fun _ => False) (fun i => i = gw) [(0, true), (1, true), (2, true), (3, true), (4, true), (5, true), (6, true), (7, true), (8, true), (9, true), (10, true), (11, true), (12, true)] [(13, false)] (by kernel_rfl) (by kernel_rfl) (fun _ _ d _ _ h => by cases d <;> exact h) ?_
        repeat (first
          | (refine sq_yes rfl (by rfl) (fun w' hM => by ((try replace hM := hM.of_drew); obtain ⟨hR1, hR2, hR3⟩ := hM.rules; clear hM; go_simp; with_reducible rfl)) ?_; simp only [Act.put, List.setIfInBounds_toArray, List.set_cons_zero, List.set_cons_succ])
          | (refine sq_no rfl (by rfl) ?_; simp only [Act.put, List.setIfInBounds_toArray, List.set_cons_zero, List.set_cons_succ]))
        clear r_B o_B l_B c_B z_B r_Wd o_Wd l_Wd c_Wd z_Wd
        replace B := Lib.hid B.out.drew
        replace Wd := Lib.hid Wd.out.drew
        replace Y := Lib.hid Y.out.drew
        replace HB := Lib.hid HB.out.drew
        generalize wr.drew = w3 at *
        refine sq_end ?_
        have cw := Wd.out.cell j
        have fw := Wd.out.frozen j
        refine sq_do_yes rfl (by rfl) (fun K_ hK_ => ?_)
        go_wp2_with fail
        have hM : Mod (fun i => i = gw) w3 (w3.setCell ⟨gw, j, none⟩ (.int .u64 ((x ||| P : Nat) : Int))) := (Mod.refl _ _).setCell _ _ (fun _ => rfl)
        refine ⟨hM, ?_⟩
        refine sq_end ?_
        have hW2 := Wd.out.set j (.int .u64 ((x ||| P : Nat) : Int))
        rw [wd_set, ← IW.out, IS.out] at hW2
        replace Wd := Lib.hid hW2
        replace B := Lib.hid (B.out.mod hM hbw)
        replace Y := Lib.hid (Y.out.mod hM FR.out)
        replace HB := Lib.hid (HB.out.setCell ⟨gw, j, none⟩ (.int .u64 ((x ||| P : Nat) : Int)) (fun _ => rfl))
        clear hM hW2 cw fw o1 o2 q4 q5
        generalize w3.setCell ⟨gw, j, none⟩ (.int .u64 ((x ||| P : Nat) : Int)) = wz at *
        go_wp2_with fail
        go_roundw
        case rel => exact ⟨t + 1, by omega, by go_num, by rw [← AS.out]; rfl, B.out, Wd.out, Y.out, HB.out⟩
        case measure => simp [intOf]; omega
        
      · rw [han] at AS
        have r_B := B.out.row
        have o_B := B.out.open
        have l_B := B.out.lt
        have c_B := B.out.cell
        have z_B := B.out.frozen
        have r_Wd := Wd.out.row
        have o_Wd := Wd.out.open
        have l_Wd := Wd.out.lt
        have c_Wd := Wd.out.cell
        have z_Wd := Wd.out.frozen
        go_wp2_with fail
        clear r_B o_B l_B c_B z_B r_Wd o_Wd l_Wd c_Wd z_Wd
        refine (KS.out _ B.out Wd.out).mono ?_
        rintro e w_ ⟨rfl, hw_⟩
        obtain rfl := hw_.symm
        clear hw_
        have o1 := OO.out.1
        have o2 := OO.out.2
        have r_B := B.out.row
        have o_B := B.out.open
        have l_B := B.out.lt
        have c_B := B.out.cell
        have z_B := B.out.frozen
        have r_Wd := Wd.out.row
        have o_Wd := Wd.out.open
        have l_Wd := Wd.out.lt
        have c_Wd := Wd.out.cell
        have z_Wd := Wd.out.frozen
        go_wp2_with fail
        clear r_B o_B l_B c_B z_B r_Wd o_Wd l_Wd c_Wd z_Wd
        have q4 := Q4.out
        have q5 := Q5.out
        have r_B := B.out.row
        have o_B := B.out.open
        have l_B := B.out.lt
        have c_B := B.out.cell
        have z_B := B.out.frozen
        have r_Wd := Wd.out.row
        have o_Wd := Wd.out.open
        have l_Wd := Wd.out.lt
        have c_Wd := Wd.out.cell
        have z_Wd := Wd.out.frozen
        refine region_sq2 (fun _ => False) (fun i => i = gw) [(0, true), (1, true), (2, true), (3, true), (4, true), (5, true), (6, true), (7, true), (8, true), (9, true), (10, true), (11, true), (12, true)] [(13, false)] (by kernel_rfl) (by kernel_rfl) (fun _ _ d _ _ h => by cases d <;> exact h) ?_
        repeat (first
          | (refine sq_yes rfl (by rfl) (fun w' hM => by ((try replace hM := hM.of_drew); obtain ⟨hR1, hR2, hR3⟩ := hM.rules; clear hM; go_simp; with_reducible rfl)) ?_; simp only [Act.put, List.setIfInBounds_toArray, List.set_cons_zero, List.set_cons_succ])
          | (refine sq_no rfl (by rfl) ?_; simp only [Act.put, List.setIfInBounds_toArray, List.set_cons_zero, List.set_cons_succ]))
        clear r_B o_B l_B c_B z_B r_Wd o_Wd l_Wd c_Wd z_Wd
        replace B := Lib.hid B.out.drew
        replace Wd := Lib.hid Wd.out.drew
        replace Y := Lib.hid Y.out.drew
        replace HB := Lib.hid HB.out.drew
        generalize wr.drew = w4 at *
        refine sq_end ?_
        have cw := Wd.out.cell j
        have fw := Wd.out.frozen j
        refine sq_do_yes rfl (by rfl) (fun K_ hK_ => ?_)
        go_wp2_with fail
        have hM : Mod (fun i => i = gw) w4 (w4.setCell ⟨gw, j, none⟩ (.int .u64 ((x ||| P : Nat) : Int))) := (Mod.refl _ _).setCell _ _ (fun _ => rfl)
        refine ⟨hM, ?_⟩
        refine sq_end ?_
        have hW2 := Wd.out.set j (.int .u64 ((x ||| P : Nat) : Int))
        rw [wd_set, ← IW.out, IS.out] at hW2
        replace Wd := Lib.hid hW2
        replace B := Lib.hid (B.out.mod hM hbw)
        replace Y := Lib.hid (Y.out.mod hM FR.out)
        replace HB := Lib.hid (HB.out.setCell ⟨gw, j, none⟩ (.int .u64 ((x ||| P : Nat) : Int)) (fun _ => rfl))
        clear hM hW2 cw fw o1 o2 q4 q5
        generalize w4.setCell ⟨gw, j, none⟩ (.int .u64 ((x ||| P : Nat) : Int)) = wz at *
        go_wp2_with fail
        go_roundw
        case rel => exact ⟨t + 1, by omega, by go_num, by rw [← AS.out]; rfl, B.out, Wd.out, Y.out, HB.out⟩
        case measure => simp [intOf]; omega
    · obtain rfl : m = t := by omega
      rw [List.take_of_length_le (Nat.le_of_eq M.out.symm)] at Wd
      have TK := Lib.hid (List.take_of_length_le (Nat.le_of_eq M.out.symm))
      go_wp2_with fail
      go_ret
      exact ⟨by rw [← HLE.out, TK.out]; rfl, by rw [← HLE.out]; exact Wd.out, HB.out⟩
set_option maxRecDepth 100000 in
theorem insert_nil (k : Ky) (w : World) : Calls Try.prog 32 #[.pointer none, .agg (kc k)] w fun e w' => e = .returned (.bool false) ∧ Below w.heap.size w w' := by
  go_enter Try.func32, Try.ntmps32
  go_wp2_with fail
  refine (places_nil k _).mono ?_
  rintro e w1 ⟨rfl, hb⟩
  have HB := Lib.hid (step_below ((Below.refl _ w).alloc (Nat.le_refl _) _) hb)
  clear hb
  go_wp2_with fail
  go_loopw [4, 6, 11] (fun an _ i wr => i = .int .i64 0 ∧ an = .bool false ∧ Below w.heap.size w wr) (fun _ _ _ _ => 0)
  case atStart => exact ⟨rfl, rfl, HB.out⟩
  case round =>
    obtain ⟨rfl, rfl, hb⟩ := hrel
    have HB2 := Lib.hid hb
    clear hb
    go_wp2_with fail
    go_ret
    exact ⟨rfl, HB2.out⟩
end Go.Proofs.Ytjjadakjkkmjgaa
