/-
  Texts in one, each behind those that it needs: FBloomD, FBloomE, Qu, UpHeap.
-/
import Derived.Test.YtgjecemmejaieaaBao
import Derived.ArgAppend
/-
  bloom: Insert.
-/
namespace Go.Proofs.Ytgjecemmejaieaa
open Go.RowKit
def insW (ws : List Nat) (p : Nat) : List Nat := ws.set (p / 64) (ws.getD (p / 64) 0 ||| 2 ^ (p % 64))
def insAll (ws L : List Nat) : List Nat := L.foldl insW ws
theorem insW_length (ws : List Nat) (p : Nat) : (insW ws p).length = ws.length := by simp [insW]
theorem insAll_length : ∀ (L ws : List Nat), (insAll ws L).length = ws.length
  | [], _ => rfl
  | p :: r, ws => by show (insAll (insW ws p) r).length = _; rw [insAll_length r, insW_length]
theorem insAll_snoc (ws L : List Nat) (p : Nat) : insAll ws (L ++ [p]) = insW (insAll ws L) p := by simp [insAll, List.foldl_append]
theorem insW_lt (ws : List Nat) (p : Nat) (h : ∀ x ∈ ws, x < 18446744073709551616) : ∀ x ∈ insW ws p, x < 18446744073709551616 := by
  intro x hx
  unfold insW at hx
  rcases List.mem_or_eq_of_mem_set hx with h1 | rfl
  · exact h x h1
  · have h1 := getD_lt ws (p / 64) h
    have h2 : 2 ^ (p % 64) < 2 ^ 64 := Nat.pow_lt_pow_right (by omega) (Nat.mod_lt _ (by omega))
    exact Nat.or_lt_two_pow (n := 64) (by omega) h2
theorem insAll_lt : ∀ (L ws : List Nat), (∀ x ∈ ws, x < 18446744073709551616) → ∀ x ∈ insAll ws L, x < 18446744073709551616
  | [], _, h => h
  | p :: r, ws, h => insAll_lt r (insW ws p) (insW_lt ws p h)
theorem bt_insW (ws : List Nat) (q p : Nat) (h : q / 64 < ws.length) : bt (insW ws q) p = (decide (p = q) || bt ws p) := by
  unfold bt insW
  by_cases e : p / 64 = q / 64
  · have e1 : (ws.set (q / 64) (ws.getD (q / 64) 0 ||| 2 ^ (q % 64))).getD (p / 64) 0 = ws.getD (q / 64) 0 ||| 2 ^ (q % 64) := by
      rw [e, List.getD_eq_getElem?_getD, List.getElem?_set_self h]; rfl
    rw [e1, e, Nat.testBit_or, Nat.testBit_two_pow, Bool.or_comm]
    congr 1
    rw [decide_eq_decide]
    omega
  · have e1 : (ws.set (q / 64) (ws.getD (q / 64) 0 ||| 2 ^ (q % 64))).getD (p / 64) 0 = ws.getD (p / 64) 0 := by
      simp only [List.getD_eq_getElem?_getD]
      rw [List.getElem?_set_ne (Ne.symm e)]
    have e2 : decide (p = q) = false := by simp; intro h; exact e (by rw [h])
    rw [e1, e2, Bool.false_or]
theorem bt_insAll : ∀ (L ws : List Nat) (p : Nat), (∀ q ∈ L, q / 64 < ws.length) → bt (insAll ws L) p = (decide (p ∈ L) || bt ws p)
  | [], ws, p, _ => by simp [insAll]
  | q :: r, ws, p, h => by
    show bt (insAll (insW ws q) r) p = _
    rw [bt_insAll r (insW ws q) p (fun x hx => by rw [insW_length]; exact h x (by simp [hx])), bt_insW ws q p (h q (by simp))]
    by_cases h1 : p = q <;> by_cases h2 : p ∈ r <;> simp [h1, h2]
theorem anew_step (ws L : List Nat) (t : Nat) (ht : t < L.length) (hl : ∀ q ∈ L, q / 64 < ws.length) :
    (!(L.take t).all (bt ws) || !bt (insAll ws (L.take t)) (L.getD t 0)) = !(L.take (t + 1)).all (bt ws) := by
  rw [bt_insAll _ _ _ (fun q hq => hl q (List.mem_of_mem_take hq)), List.take_succ_eq_append_getElem ht, List.all_append]
  have e : L.getD t 0 = L[t] := by rw [List.getD_eq_getElem?_getD, List.getElem?_eq_getElem ht]; rfl
  rw [e]
  cases ha : (L.take t).all (bt ws)
  · simp
  · by_cases hm : L[t] ∈ L.take t
    · have := (List.all_eq_true.1 ha) _ hm
      simp [hm, this]
    · simp [hm]
theorem or_fact (x r P : Nat) (hx : x < 18446744073709551616) (hr : r < 64) (hP : P = 2 ^ r) : IntKind.u64.wrap ((2 : Int) ^ r) = (P : Int) ∧ bits .or .u64 (x : Int) (P : Int) = ((x ||| P : Nat) : Int) := by
  have h2 : 2 ^ r < 2 ^ 64 := Nat.pow_lt_pow_right (by omega) hr
  rw [← hP] at h2
  refine ⟨?_, u64_or_nat _ _ hx (by omega)⟩
  rw [IntKind.wrap_u64, show ((2 : Int) ^ r) = (P : Int) by rw [hP]; simp]
  omega
set_option maxRecDepth 100000 in
set_option maxHeartbeats 4000000 in
theorem insert_any (gb gw gf : Nat) (c : Cf) (k : Ky) (N n : Nat) (ws : List Nat) (w : World) (hB : At w gb 129 (bcs gf N gw n)) (hW : At w gw 131 (wd ws)) (hF : At w gf 100 (fc c)) (hbw : gb ≠ gw) (hN : 1 ≤ N) (hN2 : N ≤ 65536) (hn : n = nw N) (hl : ws.length = n) (hx : ∀ x ∈ ws, x < 18446744073709551616) (h1 : 0 ≤ c.hashes) (h2 : c.hashes ≤ 80) (hb1 : 1 ≤ c.bloom) :
    Calls Try.prog 35 #[.pointer (some ⟨gb, 0, none⟩), .agg (kc k)] w fun e w' => e = .returned (.bool (!(pN c k N).all (bt ws))) ∧ At w' gw 131 (wd (insAll ws (pN c k N))) ∧ Mod (fun i => i = gw) w w' := by
  have B := Lib.hid hB
  have F := Lib.hid hF
  have Wd := Lib.hid hW
  have hNn : N ≤ n * 64 ∧ n ≤ 1024 := by rw [hn]; unfold nw; omega
  have HX := Lib.hid hx
  have HLT := Lib.hid (pN_lt c k N hN)
  have HL := Lib.hid (pN_length c k N h2)
  have HLL := Lib.hid hl
  have hlw := hW.lt
  clear hB hW hF hx hn hl
  go_enter Try.func35, Try.ntmps35
  have HB := Lib.hid (Mod.refl (fun i => i = gw) w)
  
  
  
  go_wp2_with fail
  have HBp := HB
  have K := at_new w 57 (kc k) (w.heap.size) rfl
  replace HB := Lib.hid (HB.out.alloc (.cells (kc k) 57))
  have Bp := B
  replace B := Lib.hid (B.out.alloc (.cells (kc k) 57))
  have Fp := F
  replace F := Lib.hid (F.out.alloc (.cells (kc k) 57))
  have Wdp := Wd
  replace Wd := Lib.hid (Wd.out.alloc (.cells (kc k) 57))
  obtain ⟨gk, hg⟩ : ∃ g, g = w.heap.size := ⟨_, rfl⟩
  have hgs : gk = w.heap.size := by rw [hg]
  have b_gk : w.heap.size ≤ gk := by rw [hgs]; exact HBp.out.size
  have S_w1 := Lib.hid (show (w.alloc (.cells (kc k) 57)).heap.size = gk + 1 by rw [World.size_alloc, hgs])
  rw [← hg] at K
  try rw [← hg]
  have ne_B_K : gb ≠ gk := by have := Bp.out.lt; omega
  have ne_K_B : gk ≠ gb := fun h => ne_B_K h.symm
  have ne_F_K : gf ≠ gk := by have := Fp.out.lt; omega
  have ne_K_F : gk ≠ gf := fun h => ne_F_K h.symm
  have ne_Wd_K : gw ≠ gk := by have := Wdp.out.lt; omega
  have ne_K_Wd : gk ≠ gw := fun h => ne_Wd_K h.symm
  clear hg hgs HBp Bp Fp Wdp
  replace K := Lib.hid K
  generalize w.alloc (.cells (kc k) 57) = w1 at *
  have r_B := B.out.row
  have o_B := B.out.open
  have l_B := B.out.lt
  have c_B := B.out.cell
  have z_B := B.out.frozen
  have r_F := F.out.row
  have o_F := F.out.open
  have l_F := F.out.lt
  have c_F := F.out.cell
  have z_F := F.out.frozen
  have r_Wd := Wd.out.row
  have o_Wd := Wd.out.open
  have l_Wd := Wd.out.lt
  have c_Wd := Wd.out.cell
  have z_Wd := Wd.out.frozen
  have r_K := K.out.row
  have o_K := K.out.open
  have l_K := K.out.lt
  have c_K := K.out.cell
  have z_K := K.out.frozen
  go_wp2_with fail
  clear r_B o_B l_B c_B z_B r_F o_F l_F c_F z_F r_Wd o_Wd l_Wd c_Wd z_Wd r_K o_K l_K c_K z_K
  refine (places_n gb gw n gf c k N _ B.out F.out hN hN2 h1 h2 hb1).mono ?_
  rintro e w2 ⟨a, m, q, rfl, hm, hy, hfr, hb⟩
  have hbs : Below w1.heap.size w1 w2 := step_below (by first | exact Below.refl _ _ | exact (Below.refl _ _).drew | exact (Below.refl _ _).alloc (Nat.le_refl _) _ | exact ((Below.refl _ _).alloc (Nat.le_refl _) _).drew | exact ((Below.refl _ _).drew).alloc (Nat.le_refl _) _ | exact ((Below.refl _ _).alloc (Nat.le_refl _) _).alloc (by simp) _ | exact (((Below.refl _ _).alloc (Nat.le_refl _) _).alloc (by simp) _).drew | exact (((Below.refl _ _).alloc (Nat.le_refl _) _).alloc (by simp) _).alloc (by simp; omega) _) hb
  try clear HBz
  have HBz := HB.out.size
  replace HB := Lib.hid (HB.out.trans (Mod.of_below hbs))
  replace B := Lib.hid (B.out.below hbs B.out.lt)
  replace F := Lib.hid (F.out.below hbs F.out.lt)
  replace Wd := Lib.hid (Wd.out.below hbs Wd.out.lt)
  replace K := Lib.hid (K.out.below hbs K.out.lt)
  clear hbs
  clear hb
  have Y := Lib.hid hy
  have M := Lib.hid hm
  have hm80 : m ≤ 80 := by have := HL.out; omega
  clear hm hy
  have FR := Lib.hid (fun b o (h : a = some ⟨b, o, none⟩) => show ¬ b = gw by have := hfr b o h; omega)
  clear hfr
  obtain ⟨L, hLe⟩ : ∃ L, L = pN c k N := ⟨_, rfl⟩
  rw [← hLe] at Y M HL HLT
  have HLE := Lib.hid hLe
  have HLW := Lib.hid (show ∀ q ∈ L, q / 64 < ws.length by intro q hq; have := HLT.out q hq; rw [HLL.out]; omega)
  clear hLe
  go_wp2_with fail
  clear F K
  go_loopw [4, 6, 11] (fun an _ i wr => ∃ t : Nat, t ≤ m ∧ i = .int .i64 t ∧ an = .bool (!(L.take t).all (bt ws)) ∧ At wr gb 129 (bcs gf N gw n) ∧ At wr gw 131 (wd (insAll ws (L.take t))) ∧ Ints wr a m (L.map fun p : Nat => (p : Int)) ∧ Mod (fun i => i = gw) w wr) (fun _ _ i _ => m - (intOf i).toNat)
  case atStart => exact ⟨0, Nat.zero_le _, rfl, rfl, B.out, Wd.out, Y.out, HB.out⟩
  case round =>
    obtain ⟨t, ht, rfl, rfl, hB_, hWd_, hY_, hBel_⟩ := hrel
    have B := Lib.hid hB_
    have Wd := Lib.hid hWd_
    have Y := Lib.hid hY_
    have HB := Lib.hid hBel_
    clear hB_ hWd_ hY_ hBel_
    by_cases hlt : t < m
    · have htl : t < L.length := by rw [← M.out]; exact hlt
      have hYb := Y.out.2 (by omega)
      obtain ⟨b, o, hab, lb, hc⟩ := hYb
      have hbg := FR.out b o hab
      subst hab
      have x0 := hc t hlt
      rw [cast_get] at x0
      have AS := Lib.hid (anew_step ws L t htl HLW.out)
      have IS := Lib.hid (show insW (insAll ws (L.take t)) (L.getD t 0) = insAll ws (L.take (t + 1)) by
        rw [List.take_succ_eq_append_getElem htl, insAll_snoc]
        congr 1
        rw [List.getD_eq_getElem?_getD, List.getElem?_eq_getElem htl]; rfl)
      have HX2 := Lib.hid (insAll_lt (L.take t) ws HX.out)
      have HL2 := Lib.hid (show (insAll ws (L.take t)).length = n by rw [insAll_length]; exact HLL.out)
      obtain ⟨p, hp⟩ : ∃ p, p = L.getD t 0 := ⟨_, rfl⟩
      rw [← hp] at x0 AS IS
      have hpN : p < N := by rw [hp]; exact HLT.out _ (getD_memB L t htl)
      clear hc hp
      obtain ⟨wt, hwt⟩ : ∃ wt, wt = insAll ws (L.take t) := ⟨_, rfl⟩
      rw [← hwt] at AS IS HX2 HL2 Wd
      obtain ⟨j, hj⟩ : ∃ j, j = p / 64 := ⟨_, rfl⟩
      obtain ⟨r, hr⟩ : ∃ r, r = p % 64 := ⟨_, rfl⟩
      obtain ⟨x, hx⟩ : ∃ x, x = wt.getD j 0 := ⟨_, rfl⟩
      obtain ⟨P, hP⟩ : ∃ P, P = 2 ^ r := ⟨_, rfl⟩
      have hjn : j < n := by omega
      have hwd := wd_get wt j (by rw [HL2.out]; exact hjn)
      rw [← hx] at hwd
      have IW := Lib.hid (show insW wt p = wt.set j (x ||| P) by unfold insW; rw [← hj, ← hr, ← hx, ← hP])
      have hor := or_fact x r P (by rw [hx]; exact getD_lt wt j HX2.out) (by omega) hP
      have o1 := hor.1
      have o2 := hor.2
      have q1 : (p : Int) / 64 = (j : Int) := by omega
      have q2 : (p : Int) % 64 = (r : Int) := by omega
      have q3 : min r 64 = r := by omega
      have Q5 := Lib.hid (show (p : Int).tmod 64 = (r : Int) by rw [Int.tmod_eq_emod_of_nonneg (Int.natCast_nonneg p)]; omega)
      have Q4 := Lib.hid (show IntKind.i64.wrap (j : Int) = (j : Int) by rw [IntKind.wrap_i64]; omega)
      clear hwt hj hr hx hP hor
      have KS := Lib.hid (fun w hb hw => set_any gb gw gf N n p wt w hb hw hNn.2 HL2.out (by omega) HX2.out)
      have OO := Lib.hid (And.intro o1 o2)
      clear o1 o2
      cases han : (L.take t).all (bt ws)
      · rw [han] at AS
        
        have o1 := OO.out.1
        have o2 := OO.out.2
        have r_B := B.out.row
        have o_B := B.out.open
        have l_B := B.out.lt
        have c_B := B.out.cell
        have z_B := B.out.frozen
        have r_Wd := Wd.out.row
        have o_Wd := Wd.out.open
        have l_Wd := Wd.out.lt
        have c_Wd := Wd.out.cell
        have z_Wd := Wd.out.frozen
        go_wp2_with fail
        clear r_B o_B l_B c_B z_B r_Wd o_Wd l_Wd c_Wd z_Wd
        have q4 := Q4.out
        have q5 := Q5.out
        have r_B := B.out.row
        have o_B := B.out.open
        have l_B := B.out.lt
        have c_B := B.out.cell
        have z_B := B.out.frozen
        have r_Wd := Wd.out.row
        have o_Wd := Wd.out.open
        have l_Wd := Wd.out.lt
        have c_Wd := Wd.out.cell
        have z_Wd := Wd.out.frozen
        refine region_sq2 (fun _ => False) (fun i => i = gw) [(0, true), (1, true), (2, true), (3, true), (4, true), (5, true), (6, true), (7, true), (8, true), (9, true), (10, true), (11, true), (12, true)] [(13, false)] (by kernel_rfl) (by kernel_rfl) (fun _ _ d _ _ h => by cases d <;> exact h) ?_
        repeat (first
          | (refine sq_yes rfl (by rfl) (fun w' hM => by ((try replace hM := hM.of_drew); obtain ⟨hR1, hR2, hR3⟩ := hM.rules; clear hM; go_simp; with_reducible rfl)) ?_; simp only [Act.put, List.setIfInBounds_toArray, List.set_cons_zero, List.set_cons_succ])
          | (refine sq_no rfl (by rfl) ?_; simp only [Act.put, List.setIfInBounds_toArray, List.set_cons_zero, List.set_cons_succ]))
        clear r_B o_B l_B c_B z_B r_Wd o_Wd l_Wd c_Wd z_Wd
        replace B := Lib.hid B.out.drew
        replace Wd := Lib.hid Wd.out.drew
        replace Y := Lib.hid Y.out.drew
        replace HB := Lib.hid HB.out.drew
        generalize wr.drew = w3 at *
        refine sq_end ?_
        have cw := Wd.out.cell j
        have fw := Wd.out.frozen j
        refine sq_do_yes rfl (by rfl) (fun K_ hK_ => ?_)
        go_wp2_with fail
        have hM : Mod (fun i => i = gw) w3 (w3.setCell ⟨gw, j, none⟩ (.int .u64 ((x ||| P : Nat) : Int))) := (Mod.refl _ _).setCell _ _ (fun _ => rfl)
        refine ⟨hM, ?_⟩
        refine sq_end ?_
        have hW2 := Wd.out.set j (.int .u64 ((x ||| P : Nat) : Int))
        rw [wd_set, ← IW.out, IS.out] at hW2
        replace Wd := Lib.hid hW2
        replace B := Lib.hid (B.out.mod hM hbw)
        replace Y := Lib.hid (Y.out.mod hM FR.out)
        replace HB := Lib.hid (HB.out.setCell ⟨gw, j, none⟩ (.int .u64 ((x ||| P : Nat) : Int)) (fun _ => rfl))
        clear hM hW2 cw fw o1 o2 q4 q5
        generalize w3.setCell ⟨gw, j, none⟩ (.int .u64 ((x ||| P : Nat) : Int)) = wz at *
        go_wp2_with fail
        go_roundw
        case rel => exact ⟨t + 1, by omega, by go_num, by rw [← AS.out]; rfl, B.out, Wd.out, Y.out, HB.out⟩
        case measure => simp [intOf]; omega
        
      · rw [han] at AS
        have r_B := B.out.row
        have o_B := B.out.open
        have l_B := B.out.lt
        have c_B := B.out.cell
        have z_B := B.out.frozen
        have r_Wd := Wd.out.row
        have o_Wd := Wd.out.open
        have l_Wd := Wd.out.lt
        have c_Wd := Wd.out.cell
        have z_Wd := Wd.out.frozen
        go_wp2_with fail
        clear r_B o_B l_B c_B z_B r_Wd o_Wd l_Wd c_Wd z_Wd
        refine (KS.out _ B.out Wd.out).mono ?_
        rintro e w_ ⟨rfl, hw_⟩
        obtain rfl := hw_.symm
        clear hw_
        have o1 := OO.out.1
        have o2 := OO.out.2
        have r_B := B.out.row
        have o_B := B.out.open
        have l_B := B.out.lt
        have c_B := B.out.cell
        have z_B := B.out.frozen
        have r_Wd := Wd.out.row
        have o_Wd := Wd.out.open
        have l_Wd := Wd.out.lt
        have c_Wd := Wd.out.cell
        have z_Wd := Wd.out.frozen
        go_wp2_with fail
        clear r_B o_B l_B c_B z_B r_Wd o_Wd l_Wd c_Wd z_Wd
        have q4 := Q4.out
        have q5 := Q5.out
        have r_B := B.out.row
        have o_B := B.out.open
        have l_B := B.out.lt
        have c_B := B.out.cell
        have z_B := B.out.frozen
        have r_Wd := Wd.out.row
        have o_Wd := Wd.out.open
        have l_Wd := Wd.out.lt
        have c_Wd := Wd.out.cell
        have z_Wd := Wd.out.frozen
        refine region_sq2 (fun _ => False) (fun i => i = gw) [(0, true), (1, true), (2, true), (3, true), (4, true), (5, true), (6, true), (7, true), (8, true), (9, true), (10, true), (11, true), (12, true)] [(13, false)] (by kernel_rfl) (by kernel_rfl) (fun _ _ d _ _ h => by cases d <;> exact h) ?_
        repeat (first
          | (refine sq_yes rfl (by rfl) (fun w' hM => by ((try replace hM := hM.of_drew); obtain ⟨hR1, hR2, hR3⟩ := hM.rules; clear hM; go_simp; with_reducible rfl)) ?_; simp only [Act.put, List.setIfInBounds_toArray, List.set_cons_zero, List.set_cons_succ])
          | (refine sq_no rfl (by rfl) ?_; simp only [Act.put, List.setIfInBounds_toArray, List.set_cons_zero, List.set_cons_succ]))
        clear r_B o_B l_B c_B z_B r_Wd o_Wd l_Wd c_Wd z_Wd
        replace B := Lib.hid B.out.drew
        replace Wd := Lib.hid Wd.out.drew
        replace Y := Lib.hid Y.out.drew
        replace HB := Lib.hid HB.out.drew
        generalize wr.drew = w4 at *
        refine sq_end ?_
        have cw := Wd.out.cell j
        have fw := Wd.out.frozen j
        refine sq_do_yes rfl (by rfl) (fun K_ hK_ => ?_)
        go_wp2_with fail
        have hM : Mod (fun i => i = gw) w4 (w4.setCell ⟨gw, j, none⟩ (.int .u64 ((x ||| P : Nat) : Int))) := (Mod.refl _ _).setCell _ _ (fun _ => rfl)
        refine ⟨hM, ?_⟩
        refine sq_end ?_
        have hW2 := Wd.out.set j (.int .u64 ((x ||| P : Nat) : Int))
        rw [wd_set, ← IW.out, IS.out] at hW2
        replace Wd := Lib.hid hW2
        replace B := Lib.hid (B.out.mod hM hbw)
        replace Y := Lib.hid (Y.out.mod hM FR.out)
        replace HB := Lib.hid (HB.out.setCell ⟨gw, j, none⟩ (.int .u64 ((x ||| P : Nat) : Int)) (fun _ => rfl))
        clear hM hW2 cw fw o1 o2 q4 q5
        generalize w4.setCell ⟨gw, j, none⟩ (.int .u64 ((x ||| P : Nat) : Int)) = wz at *
        go_wp2_with fail
        go_roundw
        case rel => exact ⟨t + 1, by omega, by go_num, by rw [← AS.out]; rfl, B.out, Wd.out, Y.out, HB.out⟩
        case measure => simp [intOf]; omega
    · obtain rfl : m = t := by omega
      rw [List.take_of_length_le (Nat.le_of_eq M.out.symm)] at Wd
      have TK := Lib.hid (List.take_of_length_le (Nat.le_of_eq M.out.symm))
      go_wp2_with fail
      go_ret
      exact ⟨by rw [← HLE.out, TK.out]; rfl, by rw [← HLE.out]; exact Wd.out, HB.out⟩
set_option maxRecDepth 100000 in
theorem insert_nil (k : Ky) (w : World) : Calls Try.prog 35 #[.pointer none, .agg (kc k)] w fun e w' => e = .returned (.bool false) ∧ Below w.heap.size w w' := by
  go_enter Try.func35, Try.ntmps35
  go_wp2_with fail
  refine (places_nil k _).mono ?_
  rintro e w1 ⟨rfl, hb⟩
  have HB := Lib.hid (step_below ((Below.refl _ w).alloc (Nat.le_refl _) _) hb)
  clear hb
  go_wp2_with fail
  go_loopw [4, 6, 11] (fun an _ i wr => i = .int .i64 0 ∧ an = .bool false ∧ Below w.heap.size w wr) (fun _ _ _ _ => 0)
  case atStart => exact ⟨rfl, rfl, HB.out⟩
  case round =>
    obtain ⟨rfl, rfl, hb⟩ := hrel
    have HB2 := Lib.hid hb
    clear hb
    go_wp2_with fail
    go_ret
    exact ⟨rfl, HB2.out⟩
end Go.Proofs.Ytgjecemmejaieaa

/-
  bloom: Clear, Count.
-/
namespace Go.Proofs.Ytgjecemmejaieaa
open Go.RowKit
theorem zcellsU (n : Nat) : Builtin.zeroCells #[.int .u64 0] n = wd (List.replicate n 0) := by
  have := made_words n
  unfold madeCells at this
  unfold Builtin.zeroCells
  simpa using this
theorem run_clear (ty : TypeId) (gw n : Nat) (ws : List Nat) (w : World) (h : At w gw 131 (wd ws)) (hl : ws.length = n) (hn : 1 ≤ n) :
    (Builtin.clear_ #[127] ty #[.slice (some ⟨gw, 0, none⟩) n n]).run Try.prog w = .ok (.tuple #[]) (w.setCells gw 0 (wd (List.replicate n 0)).toList) := by
  have hst := store_at (P := Try.prog) w gw 0 131 (wd ws) (wd (List.replicate n 0)) h (by rw [wd_size, wd_size, List.length_replicate]; omega) (by
    rw [Array.all_eq_true']
    intro v hv
    simp only [wd, List.mem_toArray, List.mem_map] at hv
    obtain ⟨x, _, rfl⟩ := hv
    rfl)
  obtain ⟨m, rfl⟩ : ∃ m, n = m + 1 := ⟨n - 1, by omega⟩
  have hz := zcellsU (m + 1)
  have he : (Value.int .u64 0).cells = #[Value.int .u64 0] := rfl
  rw [← hz] at hst ⊢
  simp [Builtin.clear_, run_underlying Try.underlying127, he, hst]
set_option maxRecDepth 100000 in
set_option maxHeartbeats 4000000 in
theorem clear_any (gb gw gf : Nat) (N n : Nat) (ws : List Nat) (w : World) (hB : At w gb 129 (bcs gf N gw n)) (hW : At w gw 131 (wd ws)) (hl : ws.length = n) (hn : 1 ≤ n) :
    Calls Try.prog 33 #[.pointer (some ⟨gb, 0, none⟩)] w fun e w' => (∃ v, e = .returned v) ∧ At w' gw 131 (wd (List.replicate n 0)) ∧ Mod (fun i => i = gw) w w' := by
  have B := Lib.hid hB
  have hcl := fun ty => run_clear ty gw n ws w hW hl hn
  have hA := At.setCells (wd (List.replicate n 0)).toList 0 _ _ hW
  rw [splice_all _ _ (by rw [wd_size, wd_size, List.length_replicate, hl])] at hA
  have HA := Lib.hid hA
  clear hB hA hl hW
  go_enter Try.func33, Try.ntmps33
  have HB := Lib.hid (Below.refl w.heap.size w)
  
  have r_B := B.out.row
  have o_B := B.out.open
  have l_B := B.out.lt
  have c_B := B.out.cell
  have z_B := B.out.frozen
  go_wp2_with fail
  clear r_B o_B l_B c_B z_B
  go_end0
  exact ⟨⟨_, rfl⟩, HA.out, Mod.setCells (M := fun i => i = gw) rfl _ _ _⟩
/-- What bits.OnesCount64 reckons. -/
def m0 : Nat := 6148914691236517205
def m1 : Nat := 3689348814741910323
def m2 : Nat := 1085102592571150095
def sw1 (x : Nat) : Nat := (x / 2 &&& m0) + (x &&& m0)
def sw2 (x : Nat) : Nat := (x / 4 &&& m1) + (x &&& m1)
def sw3 (x : Nat) : Nat := (x / 16 + x) % 18446744073709551616 &&& m2
def sw4 (x : Nat) : Nat := (x + x / 256) % 18446744073709551616
def sw5 (x : Nat) : Nat := (x + x / 65536) % 18446744073709551616
def sw6 (x : Nat) : Nat := (x + x / 4294967296) % 18446744073709551616
def swar (x : Nat) : Nat := sw6 (sw5 (sw4 (sw3 (sw2 (sw1 x))))) % 128
set_option maxRecDepth 100000 in
set_option maxHeartbeats 4000000 in
theorem and127 (y : Nat) : bits .and .i64 (wrap64 (y : Int)) 127 = ((y % 128 : Nat) : Int) := by
  have e : BitVec.ofInt 64 (wrap64 (y : Int)) = BitVec.ofNat 64 y := by
    apply BitVec.eq_of_toNat_eq
    rw [BitVec.toNat_ofInt, BitVec.toNat_ofNat]
    unfold wrap64
    omega
  show IntKind.i64.wrap ((BitVec.ofInt 64 (wrap64 (y : Int)) &&& BitVec.ofInt 64 127).toNat : Int) = _
  rw [e, BitVec.toNat_and, BitVec.toNat_ofNat, show (BitVec.ofInt 64 127).toNat = 2 ^ 7 - 1 from rfl, Nat.and_two_pow_sub_one_eq_mod, IntKind.wrap_i64]
  omega
/-- How many bits are set, word by word. -/
def cntW (ws : List Nat) : Nat := (ws.map swar).sum
theorem cntW_take (ws : List Nat) (t : Nat) (h : t < ws.length) : cntW (ws.take (t + 1)) = cntW (ws.take t) + swar (ws.getD t 0) := by
  unfold cntW
  rw [List.take_succ_eq_append_getElem h, List.map_append, List.sum_append]
  simp [List.getD_eq_getElem?_getD, List.getElem?_eq_getElem h]
theorem swar_lt (x : Nat) : swar x < 128 := Nat.mod_lt _ (by omega)
theorem cntW_le : ∀ ws : List Nat, cntW ws ≤ 128 * ws.length
  | [] => by simp [cntW]
  | x :: r => by
    have := cntW_le r
    have := swar_lt x
    unfold cntW at *
    simp only [List.map_cons, List.sum_cons, List.length_cons]
    omega
end Go.Proofs.Ytgjecemmejaieaa

/-
  Slices of one-cell elements in a block of the call's own, from whatever place on (s = s[1:]; s = append(s, x)).
-/
namespace Go.Proofs.Ytgjecemmejaieaa
open Go.RowKit
def Qu (e : TypeId) (w : World) (B : Nat) (v : Value) (xs : List Value) : Prop :=
  (v = .slice none 0 0 ∧ xs = []) ∨ ∃ g o c cur, v = .slice (some ⟨g, o, none⟩) xs.length c ∧ B ≤ g ∧ At w g e cur ∧ xs.length ≤ c ∧ c ≤ maxLen ∧ o + c ≤ cur.size ∧ ∀ i x, xs[i]? = some x → cur[o + i]? = some x
section
variable {e : TypeId} {w w' : World} {B : Nat} {v : Value} {xs : List Value}
theorem Qu.nil (e : TypeId) (w : World) (B : Nat) : Qu e w B (.slice none 0 0) [] := .inl ⟨rfl, rfl⟩
theorem Qu.same (h : Qu e w B v xs) (hb : ∀ g, v.ownBlock = some g → g < w.heap.size → w'.heap[g]? = w.heap[g]?) : Qu e w' B v xs := by
  rcases h with h1 | ⟨g, o, c, cur, rfl, h2, h3, h4⟩
  · exact .inl h1
  · exact .inr ⟨g, o, c, cur, rfl, h2, (hb g rfl h3.lt).trans h3, h4⟩
theorem Qu.below (h : Qu e w B v xs) (hb : Below w.heap.size w w') : Qu e w' B v xs := h.same fun g _ hg => hb.block g hg
theorem Qu.drew (h : Qu e w B v xs) : Qu e w.drew B v xs := h
theorem Qu.alloc (h : Qu e w B v xs) (o : Obj) : Qu e (w.alloc o) B v xs := h.same fun g _ hg => Below.heap_alloc w o g hg
theorem Qu.mod {M : Nat → Prop} (h : Qu e w B v xs) (hm : Mod M w w') (hM : ∀ g, v.ownBlock = some g → ¬ M g) : Qu e w' B v xs := h.same fun g hv hg => hm.block g hg (hM g hv)
theorem Qu.ge {g : Nat} (h : Qu e w B v xs) (hg : v.ownBlock = some g) : B ≤ g := by
  rcases h with ⟨rfl, _⟩ | ⟨g', o, c, cur, rfl, h2, _⟩
  · cases hg
  · simp only [Value.ownBlock, Option.some.injEq] at hg; omega
theorem At.one_type {t : Nat} {e e' : TypeId} {cs cs' : Array Value} (h : At w t e cs) (h' : At w t e' cs') : e = e' := by
  have := (show w.heap[t]? = _ from h).symm.trans h'
  simp only [Option.some.injEq, Obj.cells.injEq] at this
  exact this.2.1
theorem Qu.ne {t : Nat} {e' : TypeId} {cs : Array Value} (h : Qu e w B v xs) (ht : At w t e' cs) (hne : e ≠ e') : v.ownBlock ≠ some t := by
  intro hv
  rcases h with ⟨rfl, _⟩ | ⟨g, o, c, cur, rfl, h2, h3, _⟩
  · cases hv
  · simp only [Value.ownBlock, Option.some.injEq] at hv
    subst hv
    exact hne (h3.one_type ht)
/-- Two of different elements lie in different blocks. -/
theorem Qu.apart {e' : TypeId} {B' g : Nat} {v' : Value} {xs' : List Value} (h : Qu e w B v xs) (h' : Qu e' w B' v' xs') (hne : e ≠ e') (hg : v.ownBlock = some g) : v'.ownBlock ≠ some g := by
  rcases h with ⟨rfl, _⟩ | ⟨g', o, c, cur, rfl, h2, h3, _⟩
  · cases hg
  · simp only [Value.ownBlock, Option.some.injEq] at hg
    subst hg
    exact h'.ne h3 (fun e => hne e.symm)
theorem Qu.form (h : Qu e w B v xs) : ∃ a c, v = .slice a xs.length c ∧ xs.length ≤ c := by
  rcases h with ⟨rfl, rfl⟩ | ⟨g, o, c, cur, rfl, h2, h3, h4, _⟩
  · exact ⟨none, 0, rfl, Nat.le_refl _⟩
  · exact ⟨_, _, rfl, h4⟩
theorem Qu.cell {a : Option Addr} {n c i : Nat} {x : Value} (h : Qu e w B (.slice a n c) xs) (hx : xs[i]? = some x) : ∃ g o, a = some ⟨g, o, none⟩ ∧ B ≤ g ∧ g < w.heap.size ∧ w.cell? ⟨g, o + i, none⟩ = some x := by
  rcases h with ⟨h1, rfl⟩ | ⟨g, o, c', cur, h1, h2, h3, h4, h5, h6, h7⟩
  · simp at hx
  · simp only [Value.slice.injEq] at h1
    obtain ⟨rfl, _, _⟩ := h1
    exact ⟨g, o, rfl, h2, h3.lt, by rw [h3.cell]; exact h7 i x hx⟩
/-- The first one let go; in the walk's own spelling. -/
theorem Qu.tail {g o n c : Nat} {x : Value} {r : List Value} (h : Qu e w B (.slice (some ⟨g, o, none⟩) n c) (x :: r)) : Qu e w B (.slice (if c = 1 then some ⟨g, o, none⟩ else some ⟨g, o + 1, none⟩) (n - 1) (c - 1)) r := by
  rcases h with ⟨h1, _⟩ | ⟨g', o', c', cur, h1, h2, h3, h4, h5, h6, h7⟩
  · simp at h1
  · simp only [Value.slice.injEq, Option.some.injEq, Addr.mk.injEq, and_true] at h1
    obtain ⟨⟨rfl, rfl⟩, rfl, rfl⟩ := h1
    simp only [List.length_cons] at h4
    by_cases hc : c = 1
    · rw [if_pos hc]
      have : r = [] := List.eq_nil_of_length_eq_zero (by omega)
      subst this
      exact .inr ⟨g, o, c - 1, cur, by simp, h2, h3, by simp, by omega, by omega, fun i x hx => by simp at hx⟩
    · rw [if_neg hc]
      refine .inr ⟨g, o + 1, c - 1, cur, by simp, h2, h3, by omega, by omega, by omega, fun i y hy => ?_⟩
      have := h7 (i + 1) y (by simpa using hy)
      rwa [show o + 1 + i = o + (i + 1) by omega]
theorem Qu.of_own (h : w.ownsRow B e 1 v xs.length xs) : Qu e w B v xs := by
  rcases h.2 with ⟨h1, h2⟩ | ⟨g, cap, cur, h1, h2, h3, h4, h5, h6, h7⟩
  · exact .inl ⟨h1, List.eq_nil_of_length_eq_zero h2⟩
  · refine .inr ⟨g, 0, cap, cur, h1, h2, h3, h4, h5, by omega, fun i x hx => ?_⟩
    rw [← h7, List.getElem?_take] at hx
    split at hx
    · rw [Nat.zero_add, ← Array.getElem?_toList]; exact hx
    · cases hx
theorem run_qu_app1 {P : Program} {t ty : TypeId} {z : Value} {bytes : Nat} {y : Value} (ht : P.underlying t = some (.slice e)) (hinfo : (P.info? e).map (fun i => (i.zero, i.size, i.bytes)) = some (some z, 1, bytes)) (hzs : z.cells.size = 1)
    (hown : Qu e w B v xs) (h1 : y.oneCell' = true) (h63 : xs.length + 1 ≤ maxLen) (hbytes : (xs.length + 1) * bytes ≤ 140737488355328) (hB : B ≤ w.heap.size) :
    ∃ v' w', (Builtin.append_ #[t, t] ty #[v, .slice (some ⟨w.heap.size, 0, none⟩) 1 1]).run P (w.alloc (.cells #[y] e)) = .ok v' w' ∧ Qu e w' B v' (xs ++ [y]) ∧ Mod (fun g => v.ownBlock = some g) w w' ∧ (v'.ownBlock = v.ownBlock ∨ ∃ q, v'.ownBlock = some q ∧ w.heap.size ≤ q) := by
  obtain ⟨i0, hi, hz0, hz1, hz2⟩ := info_parts hinfo
  have hlen : (xs ++ [y]).length = xs.length + 1 := by simp
  rcases hown with ⟨rfl, rfl⟩ | ⟨g, o, c, cur, rfl, h2, h3, h4, h5, h6, h7⟩
  · obtain ⟨v', w', hr, q2, q3, _, q4⟩ := run_append_own_at (P := P) (w.alloc (.cells #[y] e)) B t ty e i0 z 1 bytes ht hi hz0 hz1 hz2 hzs (by omega) (.slice none 0 0) 0 [] (World.ownsRow_nil _ _ _ _) ⟨w.heap.size, 0, none⟩ 1 1 [y] rfl (cell_one_new w y e) (by simpa using h1) (by simpa using h63) (by simpa using hbytes) (by simp; omega)
    refine ⟨v', w', hr, Qu.of_own q2, ((Mod.refl _ w).alloc _).trans ((Mod.refl _ _).grown q3 (fun k hk _ => hk)), q4.imp id fun q => ⟨_, q, by simp⟩⟩
  · by_cases hroom : xs.length + 1 ≤ c
    · have hlt : o + xs.length < cur.size := by omega
      have h3' := h3.alloc (.cells #[y] e)
      have hr := run_append_room_cells (P := P) (w.alloc (.cells #[y] e)) t ty e i0 ht hi g o xs.length c ⟨w.heap.size, 0, none⟩ 1 1 [y] (by rw [hz1]; rfl) (cell_one_new w y e) (by simpa using h1) hroom
        (fun j hj => by
          have hj0 : j = 0 := by simp at hj; exact hj
          subst hj0
          rw [hz1, Nat.mul_one, Nat.add_zero, h3'.cell, Array.getElem?_eq_getElem hlt]; rfl)
        (fun j hj => h3'.frozen _)
      rw [hz1, Nat.mul_one] at hr
      refine ⟨_, _, hr, .inr ⟨g, o, c, splice cur (o + xs.length) [y], by rw [hlen], h2, At.setCells [y] _ _ _ h3', by rw [hlen]; exact hroom, h5, by rw [splice_size]; exact h6, fun i x hx => ?_⟩, ((Mod.refl _ w).alloc _).trans (Mod.setCells (M := fun k => (Value.slice (some ⟨g, o, none⟩) xs.length c).ownBlock = some k) (g := g) rfl _ _ _), .inl rfl⟩
      rw [splice_get _ _ _ _ (by simp; omega)]
      rcases Nat.lt_or_ge i xs.length with hil | hil
      · rw [if_neg (by omega)]
        rw [List.getElem?_append_left hil] at hx
        exact h7 i x hx
      · rw [List.getElem?_append_right hil] at hx
        have hi0 : i - xs.length = 0 := by have := (List.getElem?_eq_some_iff.1 hx).1; simp at this; omega
        rw [if_pos ⟨by omega, by simp; omega⟩, show o + i - (o + xs.length) = i - xs.length by omega]
        exact hx
    · have h3' := h3.alloc (.cells #[y] e)
      obtain ⟨v', w', hr, q2, q3⟩ := run_append_arg_grows (P := P) (w.alloc (.cells #[y] e)) t ty e i0 z 1 bytes ht hi hz0 hz1 hz2 hzs (by omega) ⟨g, o, none⟩ xs.length c xs (by simp)
        (fun j u hu => by rw [Addr.add_lit, h3'.cell]; exact h7 j u hu) ⟨w.heap.size, 0, none⟩ 1 1 [y] rfl (cell_one_new w y e) (by omega) h63 hbytes
      refine ⟨v', w', hr, ?_, ((Mod.refl _ w).alloc _).trans ((Mod.refl _ _).grown q3 (fun k hk _ => by cases hk)), ?_⟩
      · have := Qu.of_own (xs := xs ++ [y]) (by rw [hlen]; exact q2)
        rcases this with hq | ⟨g', o', c', cur', k1, k2, k3⟩
        · exact .inl hq
        · exact .inr ⟨g', o', c', cur', k1, by simp at k2; omega, k3⟩
      · rcases q2.2 with ⟨_, q⟩ | ⟨g', c', cur', k1, k2, _⟩
        · omega
        · exact .inr ⟨g', by rw [k1]; rfl, by simp at k2; omega⟩
theorem wpList_qu_app1 {P : Program} {ops : Array Oper} {rest : List Oper} {o : Oper} {a0 : Go.Act} {Q : Exit → Go.Act → World → Prop} {s x : Operand} {t : TypeId} {z : Value} {bytes g : Nat} {y : Value} (hgd : o.guard = none)
    (ht : P.underlying t = some (.slice e)) (hinfo : (P.info? e).map (fun i => (i.zero, i.size, i.bytes)) = some (some z, 1, bytes)) (hzs : z.cells.size = 1)
    (hown : Qu e w B v xs) (h1 : y.oneCell' = true) (h63 : xs.length + 1 ≤ maxLen) (hbytes : (xs.length + 1) * bytes ≤ 140737488355328) (hB : B ≤ w.heap.size)
    (ho : o.op = .call { callee := .builtin .append, args := #[s, x], argTypes := #[t, t] }) (hs : a0.eval s = v) (hx : a0.eval x = .slice (some ⟨g, 0, none⟩) 1 1) (hg : g = w.heap.size)
    (h : ∀ v' w', Qu e w' B v' (xs ++ [y]) → Mod (fun g => v.ownBlock = some g) w w' → (v'.ownBlock = v.ownBlock ∨ ∃ q, v'.ownBlock = some q ∧ w.heap.size ≤ q) → wpList P ops Q rest (a0.put o.dst v') w') : wpList P ops Q (o :: rest) a0 (w.alloc (.cells #[y] e)) := by
  subst hg
  obtain ⟨v', w', hr, h2, h3, h4⟩ := run_qu_app1 (P := P) (t := t) (ty := o.type) ht hinfo hzs hown h1 h63 hbytes hB
  refine wpList_plain hgd fun K hK => ?_
  unfold Oper.wp execOp
  simp only [ho, resolve, invoke, builtin, Sem.run_bind, Sem.run_pure, Result.andThen_ok, List.map_toArray, List.map_cons, List.map_nil, hs, hx, hr]
  exact hK _ _ (h v' w' h2 h3 h4)
end
end Go.Proofs.Ytgjecemmejaieaa

/-
  An update: the heap's picture; Step, Can, Waiting, Last.
-/
namespace Go.Proofs.Ytgjecemmejaieaa
open Go.RowKit Go.Shelf
/-- The cells of an update. -/
def upc (p gb : Nat) (st : Nat) (lv : Value) (work old : Nat) (mark : Int) : Array Value :=
  #[.pointer (some ⟨p, 0, none⟩), .pointer (some ⟨gb, 0, none⟩), .int .i64 (st : Nat), lv, .int .i64 (work : Nat), .int .i64 (old : Nat), .int .i64 mark]
@[go_sem] theorem upc_size (p gb st : Nat) (lv : Value) (work old : Nat) (mark : Int) : (upc p gb st lv work old mark).size = 7 := rfl
def nis (l : List Nat) : List Value := l.map fun v : Nat => .int .i64 (v : Nat)
theorem nis_len (l : List Nat) : (nis l).length = l.length := by simp [nis]
/-- What is fixed: where it lies, its family, its filter's blocks and size. -/
structure Uk where
  u : Nat
  gf : Nat
  gb : Nat
  gw : Nat
  N : Nat
  B : Nat
/-- What turns: its pool, the filter's words, how far it is, who waits. -/
structure Us where
  d : Pd
  ws : List Nat
  st : Nat
  lv : Value
  l : List Nat
  work : Nat
  old : Nat
  mark : Int
structure Up (w : World) (c : Cf) (k : Uk) (s : Us) : Prop where
  obj : At w k.u 81 (upc s.d.p k.gb s.st s.lv s.work s.old s.mark)
  qu : Qu 3 w k.B s.lv (nis s.l)
  pool : s.d.P w c
  flt : At w k.gb 129 (bcs k.gf k.N k.gw (nw k.N))
  wds : At w k.gw 131 (wd s.ws)
  fam : At w k.gf 100 (fc c)
  bu : k.B ≤ k.u
  bd : k.B ≤ s.d.B
  bg : k.B ≤ k.gw
  hl : s.ws.length = nw k.N
  hx : ∀ x ∈ s.ws, x < 18446744073709551616
  hN : 1 ≤ k.N
  hN2 : k.N ≤ 65536
  h1 : 0 ≤ c.hashes
  h2 : c.hashes ≤ 80
  hb1 : 1 ≤ c.bloom
  big : s.l.length ≤ 100000
section
variable {w w' : World} {c : Cf} {k : Uk} {s : Us}
theorem Up.same (h : Up w c k s) (hb : ∀ g, g < w.heap.size → w'.heap[g]? = w.heap[g]?) : Up w' c k s :=
  ⟨(hb _ h.obj.lt).trans h.obj, h.qu.same fun g _ hl => hb g hl, h.pool.same fun g _ hl => hb g hl, (hb _ h.flt.lt).trans h.flt, (hb _ h.wds.lt).trans h.wds, (hb _ h.fam.lt).trans h.fam, h.bu, h.bd, h.bg, h.hl, h.hx, h.hN, h.hN2, h.h1, h.h2, h.hb1, h.big⟩
theorem Up.below (h : Up w c k s) (hb : Below w.heap.size w w') : Up w' c k s := h.same fun g hl => hb.block g hl
theorem Up.alloc (h : Up w c k s) (o : Obj) : Up (w.alloc o) c k s := h.below ((Below.refl _ w).alloc (Nat.le_refl _) o)
theorem Up.drew (h : Up w c k s) : Up w.drew c k s := h.below (Below.refl _ w).drew
/-- What an act may turn. -/
def UM (k : Uk) (s : Us) (g : Nat) : Prop := g = k.u ∨ g = s.d.p ∨ g = s.d.t ∨ g = k.gw ∨ s.lv.ownBlock = some g
theorem Up.um (h : Up w c k s) {g : Nat} (hg : UM k s g) : k.B ≤ g ∧ g < w.heap.size := by
  obtain ⟨cs, hc⟩ := h.pool.tAt
  rcases hg with rfl | rfl | rfl | rfl | hg
  · exact ⟨h.bu, h.obj.lt⟩
  · exact ⟨Nat.le_trans h.bd h.pool.bp, h.pool.obj.lt⟩
  · exact ⟨Nat.le_trans h.bd h.pool.bt, hc.lt⟩
  · exact ⟨h.bg, h.wds.lt⟩
  · refine ⟨h.qu.ge hg, ?_⟩
    rcases h.qu with ⟨h1, _⟩ | ⟨g', o, c', cur, h1, _, h3, _⟩
    · rw [h1] at hg; cases hg
    · rw [h1] at hg
      simp only [Value.ownBlock, Option.some.injEq] at hg
      exact hg ▸ h3.lt
/-- Below its base nothing turns. -/
theorem Up.bel {w0 : World} {B : Nat} (h : Up w c k s) (hm : Mod (UM k s) w w') (hB : B ≤ k.B) (hb : Below B w0 w) : Below B w0 w' := by
  have h1 := h.bu
  have h2 := h.obj.lt
  exact hb.trans (mod_below hm (by omega) (fun g hg => by have := (h.um hg).1; omega))
/-- A block of another type is none of those that an act may turn. -/
theorem Up.not (h : Up w c k s) {g : Nat} {t : TypeId} {cs : Array Value} (hg : At w g t cs) (h1 : t ≠ 81) (h2 : t ≠ 93) (h3 : t ≠ 90) (h4 : t ≠ 131) (h5 : t ≠ 3) : ¬ UM k s g := by
  obtain ⟨cs', hc⟩ := h.pool.tAt
  rintro (e | e | e | e | e)
  · exact At.ne hg h.obj h1 e
  · exact At.ne hg h.pool.obj h2 e
  · exact At.ne hg hc h3 e
  · exact At.ne hg h.wds h4 e
  · rcases h.qu with ⟨h1, _⟩ | ⟨g', o, c', cur, h1, _, h3, _⟩
    · rw [h1] at e; cases e
    · rw [h1] at e
      simp only [Value.ownBlock, Option.some.injEq] at e
      exact At.ne hg h3 h5 e.symm
theorem Up.cells (h : Up w c k s) : w.cell? ⟨k.u, 0, none⟩ = some (.pointer (some ⟨s.d.p, 0, none⟩)) ∧ w.cell? ⟨k.u, 1, none⟩ = some (.pointer (some ⟨k.gb, 0, none⟩)) ∧ w.cell? ⟨k.u, 2, none⟩ = some (.int .i64 (s.st : Nat)) ∧ w.cell? ⟨k.u, 3, none⟩ = some s.lv ∧
    w.cell? ⟨k.u, 4, none⟩ = some (.int .i64 (s.work : Nat)) ∧ w.cell? ⟨k.u, 5, none⟩ = some (.int .i64 (s.old : Nat)) ∧ w.cell? ⟨k.u, 6, none⟩ = some (.int .i64 s.mark) ∧ k.u < w.heap.size :=
  ⟨h.obj.cell 0, h.obj.cell 1, h.obj.cell 2, h.obj.cell 3, h.obj.cell 4, h.obj.cell 5, h.obj.cell 6, h.obj.lt⟩
theorem ustep_any (h : Up w c k s) : Calls Try.prog 19 #[.pointer (some ⟨k.u, 0, none⟩)] w fun e w' => e = .returned (.int .i64 (s.st : Nat)) ∧ w' = w := by
  obtain ⟨-, -, c2, -, -, -, -, hl⟩ := h.cells
  generalize k.u = u at *
  generalize s.st = st at *
  clear h
  go_enter Try.func19, Try.ntmps19
  go_wp2_with fail
  go_ret
  exact ⟨rfl, rfl⟩
/-- Can it go on? -/
def canB (s : Us) (f : Int) : Bool := if s.st = 0 then decide (0 < s.l.length) else decide (s.mark ≤ f)
theorem ucan_any (h : Up w c k s) (f : Int) : Calls Try.prog 18 #[.pointer (some ⟨k.u, 0, none⟩), .int .i64 f] w fun e w' => e = .returned (.bool (canB s f)) ∧ w' = w := by
  obtain ⟨-, -, c2, c3, -, -, c6, hl⟩ := h.cells
  obtain ⟨a, q, hv, -⟩ := h.qu.form
  rw [nis_len] at hv
  rw [hv] at c3
  have HC := Lib.hid (show canB s f = if s.st = 0 then decide (0 < s.l.length) else decide (s.mark ≤ f) from rfl)
  generalize canB s f = R at *
  generalize k.u = u at *
  generalize s.st = st at *
  generalize s.mark = mark at *
  generalize s.l.length = n at *
  clear h hv
  by_cases h0 : st = 0
  · subst h0
    rw [if_pos rfl] at HC
    go_enter Try.func18, Try.ntmps18
    go_wp2_with fail
    go_ret
    exact ⟨by rw [HC.out]; simp, rfl⟩
  · rw [if_neg h0] at HC
    have hz : ((st : Int) == 0) = false := by simp; omega
    have hz2 : (st == 0) = false := by simp; omega
    go_enter Try.func18, Try.ntmps18
    go_wp2_with fail
    go_ret
    exact ⟨by rw [HC.out]; rfl, rfl⟩
end
end Go.Proofs.Ytgjecemmejaieaa
