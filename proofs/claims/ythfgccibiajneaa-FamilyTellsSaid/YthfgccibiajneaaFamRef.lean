/-
  The document's Valid and Bytes of addresses and flows.
-/
import Derived.Test.YthfgccibiajneaaFamKeyB
namespace Go.Proofs.Ythfgccibiajneaa
open Go.RowKit
theorem vld_false_iff (a : Adr) (h : a.v6 = false) : vld a = true ↔ ∀ j, 4 ≤ j → j < 16 → a.b.getD j 0 = 0 := by
  have hl := a.len
  unfold vld
  rw [h, Bool.false_or, beq_iff_eq]
  constructor
  · intro he j h1 h2
    have := congrArg (fun l : List Nat => l[j - 4]?) he
    simp only [List.getElem?_drop, List.getElem?_replicate, if_pos (show j - 4 < 12 by omega), show 4 + (j - 4) = j by omega] at this
    rw [List.getD_eq_getElem?_getD, this]; rfl
  · intro hh
    apply List.ext_getElem?
    intro i
    rw [List.getElem?_drop, List.getElem?_replicate]
    by_cases hi : i < 12
    · rw [if_pos hi]
      have := hh (4 + i) (by omega) (by omega)
      rw [List.getD_eq_getElem?_getD, List.getElem?_eq_getElem (by omega)] at this
      rw [List.getElem?_eq_getElem (by omega)]
      simpa using this
    · rw [if_neg hi, List.getElem?_eq_none (by omega)]
set_option maxRecDepth 100000 in
set_option maxHeartbeats 2000000 in
theorem refValid_any (a : Adr) (w : World) : Calls Try.prog 81 #[.agg (ac a)] w fun e w' => e = .returned (.bool (vld a)) ∧ w' = w.alloc (.cells (ac a) 24) := by
  have hb := fun j (h : j < 16) => ac_byte? a j h
  have HB := Lib.hid hb
  clear hb
  go_enter Try.func81, Try.ntmps81
  go_wp2_with fail
  go_loop [3] (fun j => ∃ i : Nat, 4 ≤ i ∧ i ≤ 16 ∧ j = .int .i64 i ∧ (a.v6 = false → ∀ q, 4 ≤ q → q < i → a.b.getD q 0 = 0)) (fun j => 16 - (intOf j).toNat)
  case atStart => exact ⟨4, by omega, by omega, rfl, fun _ q h1 h2 => by omega⟩
  case round =>
    obtain ⟨i, hi1, hi2, rfl, hz⟩ := hrel
    have HZ := Lib.hid hz
    clear hz
    by_cases hlt : i < 16
    · have hc := HB.out i hlt
      obtain ⟨x, hx⟩ : ∃ x, x = a.b.getD i 0 := ⟨_, rfl⟩
      rw [← hx] at hc
      have HX := Lib.hid hx
      clear hx
      cases h6 : a.v6
      · by_cases h0 : x = 0
        · subst h0
          have hc' : (ac a)[1 + i]? = some (.int .u8 0) := hc
          clear hc
          go_wp2_with fail
          go_round
          case rel => exact ⟨i + 1, by omega, by omega, by go_num, fun hf q h1 h2 => by
            by_cases hq : q = i
            · subst hq; exact HX.out.symm
            · exact HZ.out h6 q h1 (by omega)⟩
          case measure => simp [intOf]; omega
        · have hv : vld a = false := by
            rw [← Bool.not_eq_true, vld_false_iff a h6]
            intro hh
            exact h0 (by rw [HX.out]; exact hh i hi1 hlt)
          go_wp2_with fail
          go_ret
          exact ⟨rfl, rfl⟩
      · go_wp2_with fail
        go_round
        case rel => exact ⟨i + 1, by omega, by omega, by go_num, fun hf => absurd hf (by simp)⟩
        case measure => simp [intOf]; omega
    · obtain rfl : i = 16 := by omega
      have HV : Hid (vld a = true) := by
        cases h6 : a.v6
        · exact Lib.hid ((vld_false_iff a h6).2 fun j h1 h2 => HZ.out h6 j h1 h2)
        · exact Lib.hid (by unfold vld; rw [h6]; rfl)
      go_wp2_with fail
      go_ret
      exact ⟨by rw [HV.out]; rfl, rfl⟩
set_option maxRecDepth 100000 in
set_option maxHeartbeats 1000000 in
theorem refBytes_any (a : Adr) (w : World) : Calls Try.prog 124 #[.agg (ac a)] w fun e w' => ∃ v, e = .returned v ∧ OB w' w.heap.size v (abytes a) ∧ Below w.heap.size w w' := by
  cases h : a.v6
  · have H : Hid (abytes a = a.b.take 4) := Lib.hid (by unfold abytes; rw [h]; rfl)
    go_enter Try.func124, Try.ntmps124
    go_wp2_with (at_builtin; go_loud (refine wpList_appb _ rfl _ _ rfl w.heap.size _ [] rfl (OB.made _ w.heap.size (w.heap.size + 1) (by simp) (by omega)) (some ⟨w.heap.size, 1, none⟩) 4 16 (a.b.take 4) rfl ((bytes_boxed a w _ 4 rfl (by omega) _).below ((Below.refl _ _).alloc (Nat.le_refl _) _)) (by simp) (by simp; omega) ?_; intro v' w1 ho hb1 _))
    go_ret
    exact ⟨_, rfl, by rw [H.out]; exact ho, (((Below.refl _ _).alloc (Nat.le_refl _) _).alloc (by simp) _).trans hb1⟩
  · have H : Hid (abytes a = a.b.take 16) := Lib.hid (by unfold abytes; rw [h, if_pos rfl, List.take_of_length_le (i := 16) (l := a.b) (Nat.le_of_eq a.len)])
    go_enter Try.func124, Try.ntmps124
    go_wp2_with (at_builtin; go_loud (refine wpList_appb _ rfl _ _ rfl w.heap.size _ [] rfl (OB.made _ w.heap.size (w.heap.size + 1) (by simp) (by omega)) (some ⟨w.heap.size, 1, none⟩) 16 16 (a.b.take 16) rfl ((bytes_boxed a w _ 16 rfl (by omega) _).below ((Below.refl _ _).alloc (Nat.le_refl _) _)) (by simp) (by simp; omega) ?_; intro v' w1 ho hb1 _))
    go_ret
    exact ⟨_, rfl, by rw [H.out]; exact ho, (((Below.refl _ _).alloc (Nat.le_refl _) _).alloc (by simp) _).trans hb1⟩
set_option maxRecDepth 100000 in
set_option maxHeartbeats 4000000 in
theorem refKvalid_any (k : Ky) (w : World) : Calls Try.prog 19 #[.agg (kc k)] w fun e w' => e = .returned (.bool (kvld k)) ∧ Below w.heap.size w w' := by
  have HK := Lib.hid (show kvld k = ((k.proto == 6 || k.proto == 17) && vld k.src && vld k.dst && k.src.v6 == k.dst.v6) from rfl)
  have hc : (((k.proto : Int) == 6) = true ∧ (k.proto == 6 || k.proto == 17) = true) ∨ (((k.proto : Int) == 6) = false ∧ ((k.proto : Int) == 17) = true ∧ (k.proto == 6 || k.proto == 17) = true) ∨
      (((k.proto : Int) == 6) = false ∧ ((k.proto : Int) == 17) = false ∧ (k.proto == 6 || k.proto == 17) = false) := by
    simp only [beq_iff_eq, beq_eq_false_iff_ne, Bool.or_eq_true, Bool.or_eq_false_iff, ne_eq]
    omega
  rcases hc with ⟨h1, hp⟩ | ⟨h1, h2, hp⟩ | ⟨h1, h2, hp⟩
  case inr.inr =>
    rw [hp] at HK
    clear hp
    go_enter Try.func19, Try.ntmps19
    go_wp2_with fail
    go_ret
    exact ⟨by rw [HK.out]; rfl, (Below.refl _ w).alloc (Nat.le_refl _) _⟩
  all_goals
    rw [hp] at HK
    clear hp
    cases hs : vld k.src
    · rw [hs] at HK
      go_enter Try.func19, Try.ntmps19
      go_wp2_with fail
      refine (refValid_any k.src _).mono ?_
      rintro e w1 ⟨rfl, rfl⟩
      rw [hs]
      go_wp2_with fail
      go_ret
      exact ⟨by rw [HK.out]; rfl, ((Below.refl _ w).alloc (Nat.le_refl _) _).alloc (by simp) _⟩
    · rw [hs] at HK
      have HD := Lib.hid (show vld k.dst = vld k.dst from rfl)
      generalize hd : vld k.dst = z at *
      go_enter Try.func19, Try.ntmps19
      go_wp2_with fail
      refine (refValid_any k.src _).mono ?_
      rintro e w1 ⟨rfl, rfl⟩
      rw [hs]
      go_wp2_with fail
      refine (refValid_any k.dst _).mono ?_
      rintro e w1 ⟨rfl, rfl⟩
      rw [hd]
      cases z <;>
      · go_wp2_with fail
        go_ret
        exact ⟨by rw [HK.out]; rfl, (((Below.refl _ w).alloc (Nat.le_refl _) _).alloc (by simp) _).alloc (by simp; omega) _⟩
end Go.Proofs.Ythfgccibiajneaa
