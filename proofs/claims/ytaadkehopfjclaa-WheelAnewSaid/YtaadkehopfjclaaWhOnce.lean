/-
  The wheel's methods, one contract each, for keys that are ints and keys that are strings.
-/
import Derived.Test.YtaadkehopfjclaaWhAwake
import Derived.WalkSpells
import Derived.WalkLawsBesides
import Derived.Lib.Hide
import Derived.Laws.MakeOwn
import Derived.OwnWalk
import Derived.Shelf.Abstract
namespace Go.Proofs.Ytaadkehopfjclaa
open Go.RowKit Go.MapKept Go.Shelf
/-- What a walk is told of a slice of integers that came in: nil, or a row of 'cap' cells, the numbers 'zs'. -/
def IsRow (k : IntKind) (w : World) (a : Option Addr) (len cap : Nat) (zs : List Int) : Prop :=
  (a = none ∧ len = 0 ∧ cap = 0 ∧ zs = []) ∨
  ∃ x, a = some x ∧ len ≤ cap ∧ cap ≤ maxLen ∧ zs.length = cap ∧ (∀ i, i < zs.length → w.cell? (x.add i) = some (.int k (zs.getD i 0))) ∧ ∀ n ∈ zs, (Lit.int k n).wf = true
theorem cell_spot {w : World} {a : Addr} {v : Value} (h : w.cell? a = some v) : a.spot = none ∧ a.block < w.heap.size := by
  refine ⟨?_, World.block_lt_of_cell? _ _ h⟩
  unfold World.cell? at h
  split at h
  · split at h
    · cases h
    · rename_i hs; simpa using hs
  · cases h
theorem IsRow.ints {w : World} {a : Option Addr} {len cap : Nat} {zs : List Int} (h : IsRow .i64 w a len cap zs) : Ints w a len (zs.take len) ∧ len ≤ maxLen ∧ ∀ n ∈ zs.take len, (Lit.int .i64 n).wf = true := by
  rcases h with ⟨rfl, rfl, rfl, rfl⟩ | ⟨x, rfl, h1, h2, h3, h4, h5⟩
  · exact ⟨⟨rfl, fun h => by omega⟩, by unfold maxLen; omega, fun n hn => by simp at hn⟩
  · refine ⟨⟨by simp; omega, fun hpos => ?_⟩, by omega, fun n hn => h5 n (List.mem_of_mem_take hn)⟩
    have h0 := h4 0 (by omega)
    rw [show x.add 0 = x from by simp [Addr.add]] at h0
    obtain ⟨hs, hb⟩ := cell_spot h0
    obtain ⟨b, o, s⟩ := x
    simp only at hs hb
    subst hs
    refine ⟨b, o, rfl, hb, fun i hi => ?_⟩
    have := h4 i (by omega)
    have hadd : (⟨b, o, none⟩ : Addr).add i = ⟨b, o + i, none⟩ := by unfold Addr.add; split <;> simp_all
    rw [hadd] at this
    rw [this]
    simp [List.getD_eq_getElem?_getD, hi]
/-- What a slice of integers shows, below B. -/
def InB (B : Nat) (w : World) (a : Option Addr) (n : Nat) (l : List Int) : Prop := Ints w a n l ∧ ∀ b o, 0 < n → a = some ⟨b, o, none⟩ → b < B
theorem Ints.inb {w : World} {a : Option Addr} {n : Nat} {l : List Int} (h : Ints w a n l) : InB w.heap.size w a n l := by
  refine ⟨h, fun b o hn hab => ?_⟩
  obtain ⟨b', o', hab', hlt, _⟩ := h.2 hn
  rw [hab] at hab'
  simp only [Option.some.injEq, Addr.mk.injEq, and_true] at hab'
  omega
theorem InB.below {w0 w : World} {a : Option Addr} {n : Nat} {l : List Int} (h : InB w0.heap.size w0 a n l) (hb : Below w0.heap.size w0 w) : Ints w a n l := h.1.below hb
/-- When the i-th is due. -/
def dT (Z : List Int) (i : Nat) : Nat := 1 + (Z.getD i 0 % 250).toNat
theorem dT_int (Z : List Int) (i : Nat) : (dT Z i : Int) = 1 + Z.getD i 0 % 250 := by
  unfold dT
  have := Int.emod_nonneg (Z.getD i 0) (show (250 : Int) ≠ 0 by omega)
  omega
theorem dT_bounds (Z : List Int) (i : Nat) : 1 ≤ dT Z i ∧ dT Z i ≤ 250 := by
  have h1 := dT_int Z i
  have := Int.emod_nonneg (Z.getD i 0) (show (250 : Int) ≠ 0 by omega)
  have := Int.emod_lt_of_pos (Z.getD i 0) (show (0 : Int) < 250 by omega)
  omega
/-- The first k, set one behind the other. -/
def Pk (Z : List Int) (k : Nat) : List Wi.D := (List.range k).map fun (i : Nat) => (⟨(i : Int), dT Z i, i + 1⟩ : Wi.D)
theorem Pk_len (Z : List Int) (k : Nat) : (Pk Z k).length = k := by simp [Pk]
theorem Pk_next (Z : List Int) (k : Nat) : (Pk Z k).filter (fun y => decide (y.k ≠ (k : Int))) ++ [⟨(k : Int), dT Z k, k + 1⟩] = Pk Z (k + 1) := by
  have e : (Pk Z k).filter (fun y => decide (y.k ≠ (k : Int))) = Pk Z k := List.filter_eq_self.2 fun y hy => by
    unfold Pk at hy
    obtain ⟨i, hi, rfl⟩ := List.mem_map.1 hy
    have := List.mem_range.1 hi
    simp only [decide_eq_true_eq]
    omega
  rw [e]
  unfold Pk
  rw [List.range_succ, List.map_append]
  rfl
/-- Who is left at t. -/
def PT (Z : List Int) (N t : Nat) : List Wi.D := (Pk Z N).filter fun y => decide (t ≤ y.t)
theorem PT_one (Z : List Int) (N : Nat) : PT Z N 1 = Pk Z N := List.filter_eq_self.2 fun y hy => by
  unfold Pk at hy
  obtain ⟨i, hi, rfl⟩ := List.mem_map.1 hy
  have := (dT_bounds Z i).1
  simp only [decide_eq_true_eq]
  exact this
theorem PT_next (Z : List Int) (N t : Nat) : (PT Z N t).filter (fun y => decide (y.t ≠ t)) = PT Z N (t + 1) := by
  unfold PT
  rw [List.filter_filter]
  apply List.filter_congr
  intro y _
  rw [Bool.eq_iff_iff]
  simp only [Bool.and_eq_true, decide_eq_true_eq]
  omega
theorem PT_len (Z : List Int) (N t : Nat) : (PT Z N t).length ≤ N := Nat.le_trans (List.length_filter_le _ _) (by rw [Pk_len]; exact Nat.le_refl _)
/-- Who of the first k is due at t. -/
def dues (Z : List Int) (t k : Nat) : List Int := ((List.range k).filter fun i => decide (dT Z i = t)).map fun i => ((i : Nat) : Int)
theorem PT_due (Z : List Int) (N t : Nat) : ((PT Z N t).filter (fun y => decide (y.t = t))).map (·.k) = dues Z t N := by
  unfold PT Pk dues
  rw [List.filter_filter, List.filter_map, List.map_map]
  congr 1
  apply List.filter_congr
  intro i _
  rw [Bool.eq_iff_iff]
  simp only [Function.comp, Bool.and_eq_true, decide_eq_true_eq]
  omega
theorem dues_yes (Z : List Int) (t k : Nat) (h : dT Z k = t) : dues Z t (k + 1) = dues Z t k ++ [(k : Int)] := by
  unfold dues
  rw [List.range_succ, List.filter_append, List.map_append]
  simp [h]
theorem dues_no (Z : List Int) (t k : Nat) (h : dT Z k ≠ t) : dues Z t (k + 1) = dues Z t k := by
  unfold dues
  rw [List.range_succ, List.filter_append, List.map_append]
  simp [h]
theorem dues_pre (Z : List Int) (t : Nat) : ∀ (d k : Nat), ∃ r, dues Z t (k + d) = dues Z t k ++ r
  | 0, k => ⟨[], by simp⟩
  | d + 1, k => by
    obtain ⟨r, hr⟩ := dues_pre Z t d k
    by_cases h : dT Z (k + d) = t
    · exact ⟨r ++ [((k + d : Nat) : Int)], by rw [← Nat.add_assoc, dues_yes Z t _ h, hr, List.append_assoc]⟩
    · exact ⟨r, by rw [← Nat.add_assoc, dues_no Z t _ h, hr]⟩
theorem dues_at (Z : List Int) (t k N : Nat) (hk : k < N) (h : dT Z k = t) : (dues Z t N)[(dues Z t k).length]? = some (k : Int) := by
  obtain ⟨r, hr⟩ := dues_pre Z t (N - (k + 1)) (k + 1)
  rw [show k + 1 + (N - (k + 1)) = N by omega, dues_yes Z t k h] at hr
  rw [hr, List.append_assoc, List.getElem?_append_right (Nat.le_refl _), Nat.sub_self]
  rfl
theorem dues_le (Z : List Int) (t k N : Nat) (hk : k ≤ N) : (dues Z t k).length ≤ (dues Z t N).length := by
  obtain ⟨r, hr⟩ := dues_pre Z t (N - k) k
  rw [show k + (N - k) = N by omega] at hr
  rw [hr, List.length_append]; omega
theorem len_part : ∀ (l : List Wi.D) (t : Nat), l.length = (l.filter fun y => decide (y.t ≠ t)).length + (l.filter fun y => decide (y.t = t)).length
  | [], _ => rfl
  | y :: r, t => by
    have ih := len_part r t
    by_cases h : y.t = t
    · simp [h]; simp at ih; omega
    · simp [h]; simp at ih; omega
theorem PT_left (Z : List Int) (N t : Nat) : (PT Z N t).length = (PT Z N (t + 1)).length + (dues Z t N).length := by
  rw [← PT_due, ← PT_next, List.length_map]
  exact len_part _ t
set_option maxRecDepth 100000 in
set_option maxHeartbeats 4000000 in
theorem once_in (n T N c1 : Nat) (h1 : 1 ≤ n) (h2 : n ≤ 64) (h3 : N ≤ 60) (h4 : T ≤ 300) (a1 : Option Addr) (Z : List Int) (w : World) (hI : Ints w a1 N Z) :
    Calls Try.prog 3 #[.int .i64 n, .slice a1 N c1, .int .i64 T] w fun e w' => e = .returned (.bool true) ∧ Below w.heap.size w w' := by
  have HI := Lib.hid hI.inb
  have HN := Lib.hid hI.1
  have d1 : decide ((n : Int) < 1) = false := by simp; omega
  have d2 : decide (64 < (n : Int)) = false := by simp; omega
  have d3 : decide (60 < (N : Int)) = false := by simp; omega
  have d4 : decide ((T : Int) < 0) = false := by simp
  have d5 : decide (300 < (T : Int)) = false := by simp; omega
  clear hI
  go_enter Try.func3, Try.ntmps3
  go_wp2_with fail
  refine (Wi.new_wx n h1 (by omega) w).mono ?_
  rintro e w1 ⟨hb1, p, F1, rfl, hx1⟩
  have HB := Lib.hid hb1
  have HX := Lib.hid hx1
  clear hb1 hx1 d1 d2 d3 d4 d5
  go_wp2_with fail
  go_loopw [9] (fun s9 wr => ∃ k : Nat, s9 = .int .i64 (k : Nat) ∧ k ≤ N ∧ (∃ F, Wi.Wx wr w.heap.size F p n (Pk Z k) 0 k) ∧ Below w.heap.size w wr) (fun s9 _ => N - (intOf s9).toNat)
  case atStart => exact ⟨0, rfl, Nat.zero_le _, ⟨F1, show Wi.Wx w1 _ F1 p n (Pk Z 0) 0 0 from HX.out⟩, HB.out⟩
  case round =>
    clear HX HB
    obtain ⟨k, rfl, hk, ⟨F, hx⟩, hb⟩ := hrel
    have HX := Lib.hid hx
    have HB := Lib.hid hb
    by_cases hlt : k < N
    · have hltz : (k : Int) < (N : Int) := by omega
      obtain ⟨b, o, rfl, hbl, hc⟩ := (HI.out.below hb).2 (by omega)
      have c0 := hc k hlt
      have hz := dT_int Z k
      have hzb := dT_bounds Z k
      obtain ⟨x, hxx⟩ : ∃ x, x = Z.getD k 0 := ⟨_, rfl⟩
      rw [← hxx] at c0 hz
      have HZ := Lib.hid hz
      clear hc hx hb hxx hz
      go_wp2_with fail
      refine (round_big x 250 (by omega) (by omega) _).mono ?_
      rintro e w3 ⟨rfl, rfl⟩
      go_wp2_with fail
      rw [← HZ.out]
      refine (Wi.set_wx (k : Int) (dT Z k) HX.out (by omega) (by omega) (by omega) (by rw [Pk_len]; omega)).mono ?_
      rintro e w4 ⟨rfl, ⟨F', h4, -⟩, hm4⟩
      rw [Pk_next] at h4
      have H4 := Lib.hid h4
      have HB4 := Lib.hid (HB.out.trans (mod_below hm4 HB.out.size (fun g hg => (HX.out.fb g hg).1)))
      clear h4 hm4
      go_wp2_with fail
      go_roundw
      case rel => exact ⟨k + 1, by simp, by omega, ⟨F', H4.out⟩, HB4.out⟩
      case measure => simp [intOf] <;> omega
    · have hltz : ¬ (k : Int) < (N : Int) := by omega
      have hkn : k = N := by omega
      subst hkn
      clear hx hb hlt hltz hk
      have HX2 := Lib.hid (show Wi.Wx wr w.heap.size F p n (PT Z k 1) 0 k by rw [PT_one]; exact HX.out)
      have hl1 := Lib.hid (show (PT Z k 1).length = k by rw [PT_one, Pk_len])
      clear HX
      go_wp2_with fail
      go_loopw [10, 11, 12, 13, 14] (fun s10 s11 _ _ _ wr => ∃ q : Nat, s11 = .int .i64 (q + 1 : Nat) ∧ q ≤ T ∧ s10 = .int .i64 ((PT Z k (q + 1)).length : Nat) ∧ (∃ F, Wi.Wx wr w.heap.size F p n (PT Z k (q + 1)) q k) ∧ Below w.heap.size w wr) (fun _ s11 _ _ _ _ => T + 1 - (intOf s11).toNat)
      case atStart => exact ⟨0, rfl, Nat.zero_le _, by rw [hl1.out], ⟨F, HX2.out⟩, HB.out⟩
      case round =>
        clear HX2 HB hl1
        obtain ⟨q, rfl, hq, rfl, ⟨F, hx⟩, hb⟩ := hrel
        have HX := Lib.hid hx
        have HB := Lib.hid hb
        clear hx hb
        by_cases hlt : q < T
        · have hltz : ((q + 1 : Nat) : Int) ≤ (T : Int) := by omega
          have HL := Lib.hid (PT_left Z k (q + 1))
          have HL1 := Lib.hid (PT_len Z k (q + 1))
          generalize hlq : (PT Z k (q + 1)).length = lq at *
          obtain ⟨t, ht⟩ : ∃ t, t = q + 1 := ⟨_, rfl⟩
          rw [← ht] at hltz hlq HL ⊢
          have HT := Lib.hid ht
          clear ht
          go_wp2_with fail
          refine (Wi.tick_wx HX.out (by omega) (by have := HL1.out; rw [← HT.out, hlq]; omega)).mono ?_
          rintro e w2 ⟨⟨F', out, rfl, h2, -, hr⟩, hm⟩
          rw [PT_next] at h2
          rw [PT_due, ← HT.out] at hr
          rw [← HT.out] at h2
          have H2 := Lib.hid h2
          replace HB := Lib.hid (HB.out.trans (mod_below hm HB.out.size (fun g hg => (HX.out.fb g hg).1)))
          have hS := hr.1
          obtain ⟨al, cl, rfl⟩ := hS.form
          have HR := Lib.hid (ints_of_rd (hS.rd Wi.keyL_len).1)
          have HLE := Lib.hid (fun j (hj : j ≤ k) => dues_le Z t j k hj)
          have HAT := Lib.hid (fun j (hj : j < k) (h : dT Z j = t) => dues_at Z t j k hj h)
          clear h2 hr hm hS HX HL1
          obtain ⟨nd, hnd⟩ : ∃ q, q = (dues Z t k).length := ⟨_, rfl⟩
          have HND := Lib.hid hnd
          rw [← hnd] at HR HLE HL ⊢
          have hndk : nd ≤ 60 := by
            have := HL.out
            have := PT_len Z k t
            omega
          clear hnd
          go_wp2_with fail
          go_loopw [13, 14] (fun s13 s14 wr => ∃ j : Nat, s14 = .int .i64 (j : Nat) ∧ j ≤ k ∧ s13 = .int .i64 ((dues Z t j).length : Nat) ∧ wr = w2) (fun _ s14 _ => k - (intOf s14).toNat)
          case atStart => exact ⟨0, rfl, Nat.zero_le _, rfl, rfl⟩
          case round =>
            obtain ⟨j, rfl, hj, rfl, rfl⟩ := hrel
            by_cases hjk : j < k
            · have hjz : (j : Int) < (k : Int) := by omega
              obtain ⟨b, o, rfl, hbl, hc⟩ := (HI.out.below HB.out).2 (by omega)
              have c0 := hc j hjk
              have hz := dT_int Z j
              obtain ⟨x, hxx⟩ : ∃ x, x = Z.getD j 0 := ⟨_, rfl⟩
              rw [← hxx] at c0 hz
              have HZ := Lib.hid hz
              have hle := HLE.out j hj
              generalize hdj : (dues Z t j).length = dj at *
              have HDJ := Lib.hid hdj
              have hzb := dT_bounds Z j
              have HZB := Lib.hid hzb
              clear hc hxx hz hdj hzb
              by_cases hd : dT Z j = t
              · have hat := HAT.out j hjk hd
                rw [HDJ.out] at hat
                have hdn : dj < nd := by have := (List.getElem?_eq_some_iff.1 hat).1; have := HND.out; omega
                obtain ⟨b2, o2, rfl, hbl2, hc2⟩ := HR.out.2 (by omega)
                have c2 := hc2 dj hdn
                rw [List.getD_eq_getElem?_getD, hat, Option.getD_some] at c2
                have HD := Lib.hid hd
                clear hc2 hat hd
                go_wp2_with fail
                refine (round_big x 250 (by omega) (by omega) _).mono ?_
                rintro e w3 ⟨rfl, rfl⟩
                have ht1 : (1 + x % 250 : Int) = (t : Int) := by rw [← HZ.out, HD.out]
                have hx0 : 0 ≤ x % 250 := Int.emod_nonneg _ (by omega)
                have hx1 : x % 250 < 250 := Int.emod_lt_of_pos _ (by omega)
                go_wp2_with fail
                go_roundw
                case rel => exact ⟨j + 1, by simp, by omega, by rw [dues_yes Z t j HD.out, List.length_append, HDJ.out]; simp, trivial⟩
                case measure => simp [intOf] <;> omega
              · have hd2 : ((1 + x % 250 : Int) == (t : Int)) = false := by rw [← HZ.out, beq_eq_false_iff_ne]; omega
                have HD := Lib.hid hd
                clear hd
                go_wp2_with fail
                refine (round_big x 250 (by omega) (by omega) _).mono ?_
                rintro e w3 ⟨rfl, rfl⟩
                have hx0 : 0 ≤ x % 250 := Int.emod_nonneg _ (by omega)
                have hx1 : x % 250 < 250 := Int.emod_lt_of_pos _ (by omega)
                go_wp2_with fail
                go_roundw
                case rel => exact ⟨j + 1, by simp, by omega, by rw [dues_no Z t j HD.out, HDJ.out], trivial⟩
                case measure => simp [intOf] <;> omega
            · have hjz : ¬ (j : Int) < (k : Int) := by omega
              have hjk2 : j = k := by omega
              subst hjk2
              rw [← HND.out]
              have hlq2 := HL.out
              obtain ⟨lq2, hl2⟩ : ∃ q, q = (PT Z j (t + 1)).length := ⟨_, rfl⟩
              rw [← hl2] at hlq2
              have HL2 := Lib.hid hl2
              clear hl2 hlq hjk hj
              subst hlq2
              have hle := PT_len Z j (t + 1)
              rw [← HL2.out] at hle
              go_wp2_with fail
              refine (Wi.len_wx H2.out).mono ?_
              rintro e w3 ⟨rfl, rfl⟩
              rw [← HL2.out]
              go_wp2_with fail
              go_roundw
              case rel => exact ⟨t, by simp, by omega, by rw [HL2.out], ⟨F', H2.out⟩, HB.out⟩
              case measure => simp [intOf] <;> omega
        · have hq2 : q = T := by omega
          subst hq2
          have hltz : ¬ ((q + 1 : Nat) : Int) ≤ (q : Int) := by omega
          generalize (PT Z k (q + 1)).length = lq at *
          go_wp2_with fail
          refine (Wi.now_wx HX.out).mono ?_
          rintro e w2 ⟨rfl, rfl⟩
          go_wp2_with fail
          refine (awake_any _).mono ?_
          rintro e w3 ⟨rfl, hb⟩
          have HB3 := Lib.hid (step_below HB.out hb)
          clear hb
          go_wp2_with fail
          go_ret
          exact ⟨rfl, HB3.out⟩
set_option maxHeartbeats 1000000 in
theorem once_law (a0 : Int) (a1 : Option Addr) (n1 c1 : Nat) (z1 : List Int) (a2 : Int) (w : World) (_ : (Lit.int .i64 a0).wf = true) (h1 : IsRow .i64 w a1 n1 c1 z1) (_ : (Lit.int .i64 a2).wf = true) :
    Calls Try.prog 3 #[.int .i64 a0, .slice a1 n1 c1, .int .i64 a2] w fun e w' => e = .returned (.bool true) ∧ Below w.heap.size w w' := by
  obtain ⟨hI, hlen, -⟩ := h1.ints
  by_cases hg : 1 ≤ a0 ∧ a0 ≤ 64 ∧ n1 ≤ 60 ∧ 0 ≤ a2 ∧ a2 ≤ 300
  · obtain ⟨g1, g2, g3, g4, g5⟩ := hg
    obtain ⟨n, rfl⟩ := Int.eq_ofNat_of_zero_le (show 0 ≤ a0 by omega)
    obtain ⟨T, rfl⟩ := Int.eq_ofNat_of_zero_le g4
    exact once_in n T n1 c1 (by omega) (by omega) g3 (by omega) a1 _ w hI
  · have hcase : a0 < 1 ∨ (decide (a0 < 1) = false ∧ 64 < a0) ∨ (decide (a0 < 1) = false ∧ decide (64 < a0) = false ∧ (60 : Int) < (n1 : Int)) ∨ (decide (a0 < 1) = false ∧ decide (64 < a0) = false ∧ decide ((60 : Int) < (n1 : Int)) = false ∧ a2 < 0) ∨ (decide (a0 < 1) = false ∧ decide (64 < a0) = false ∧ decide ((60 : Int) < (n1 : Int)) = false ∧ decide (a2 < 0) = false ∧ 300 < a2) := by
      simp only [decide_eq_false_iff_not]; omega
    clear hg hI
    rcases hcase with q1 | ⟨q1, q2⟩ | ⟨q1, q2, q3⟩ | ⟨q1, q2, q3, q4⟩ | ⟨q1, q2, q3, q4, q5⟩ <;>
    · go_enter Try.func3, Try.ntmps3
      go_wp2_with fail
      refine (awake_any _).mono ?_
      rintro e w3 ⟨rfl, hb⟩
      go_wp2_with fail
      go_ret
      exact ⟨rfl, hb⟩
end Go.Proofs.Ytaadkehopfjclaa
