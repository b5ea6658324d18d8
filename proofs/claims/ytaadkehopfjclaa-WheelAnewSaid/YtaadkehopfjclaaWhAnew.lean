/-
  The wheel's methods, one contract each, for keys that are ints and keys that are strings.
-/
import Derived.Test.YtaadkehopfjclaaWhOnce
import Derived.WalkSpells
import Derived.WalkLawsBesides
import Derived.Lib.Hide
import Derived.Laws.MakeOwn
import Derived.OwnWalk
import Derived.Shelf.Abstract
namespace Go.Proofs.Ytaadkehopfjclaa
open Go.RowKit Go.MapKept Go.Shelf

namespace Wi
theorem Rs.app {w w' : World} {B C : Nat} {F : Nat → Prop} {p n : Nat} {P : List D} {now seq : Nat} {v v' : Value} {L : List K} {k : K} (h : Rs w F C v L) (hx : Wx w B F p n P now seq) (hs : Sl 1 keyL 3 w' C v' (L ++ [k]))
    (hm : Mod (fun g => v.ownBlock = some g) w w') (ho : v'.ownBlock = v.ownBlock ∨ ∃ q, v'.ownBlock = some q ∧ w.heap.size ≤ q) : Rs w' F C v' (L ++ [k]) ∧ Wx w' B F p n P now seq := by
  refine ⟨⟨hs, fun g hg hf => ?_⟩, hx.mod hm (fun g hf hg => h.2 g hg hf)⟩
  rcases ho with e | ⟨q, e, hq⟩
  · exact h.2 g (e ▸ hg) hf
  · rw [e] at hg
    simp only [Option.some.injEq] at hg
    have := (hx.fb g hf).2
    omega
theorem Rs.other {w w' : World} {C : Nat} {F : Nat → Prop} {v u : Value} {L : List K} (h : Rs w F C u L) (hm : Mod (fun g => v.ownBlock = some g) w w') (hd : ∀ g, v.ownBlock = some g → u.ownBlock ≠ some g) : Rs w' F C u L :=
  ⟨h.1.mod hm (fun g hg e => hd g e hg), h.2⟩
theorem Rs.nil (w : World) (F : Nat → Prop) (C : Nat) : Rs w F C (.slice none 0 0) [] := ⟨Sl.nil _ _ _ _ _, fun g hg => by cases hg⟩
end Wi
/-- The first k numbers. -/
def rng (k : Nat) : List Int := (List.range k).map fun (i : Nat) => (i : Int)
theorem rng_len (k : Nat) : (rng k).length = k := by simp [rng]
theorem rng_next (k : Nat) : rng (k + 1) = rng k ++ [(k : Int)] := by unfold rng; rw [List.range_succ, List.map_append]; rfl
theorem rng_mem (k : Nat) (x : Int) : x ∈ rng k ↔ 0 ≤ x ∧ x < k := by
  unfold rng
  rw [List.mem_map]
  constructor
  · rintro ⟨i, hi, rfl⟩
    have := List.mem_range.1 hi
    omega
  · rintro ⟨h1, h2⟩
    exact ⟨x.toNat, List.mem_range.2 (by omega), by omega⟩
theorem rng_nodup (k : Nat) : (rng k).Nodup := by
  induction k with
  | zero => simp [rng]
  | succ k ih =>
    rw [rng_next, List.nodup_append]
    refine ⟨ih, by simp, fun a ha b hb => ?_⟩
    simp only [List.mem_singleton] at hb
    have := (rng_mem k a).1 ha
    omega
/-- All but one. -/
def rm (L : List Int) (k : Int) : List Int := L.filter fun x => decide (x ≠ k)
theorem rm_not {L : List Int} {k : Int} (h : k ∉ L) : rm L k = L := List.filter_eq_self.2 fun x hx => by
  simp only [decide_eq_true_eq]
  rintro rfl
  exact h hx
theorem rm_len : ∀ {L : List Int} {k : Int}, L.Nodup → k ∈ L → (rm L k).length + 1 = L.length
  | [], _, _, h => by simp at h
  | a :: r, k, hn, h => by
    obtain ⟨ha, hr⟩ := List.nodup_cons.1 hn
    by_cases hak : a = k
    · subst hak
      have : rm (a :: r) a = rm r a := by unfold rm; rw [List.filter_cons, if_neg (by simp)]
      rw [this, rm_not ha]; rfl
    · have h2 : k ∈ r := by
        rcases List.mem_cons.1 h with h | h
        · exact absurd h.symm hak
        · exact h
      have : rm (a :: r) k = a :: rm r k := by unfold rm; rw [List.filter_cons, if_pos (by simpa using hak)]
      rw [this, List.length_cons, rm_len hr h2, List.length_cons]
theorem rm_take (L : List Int) (k : Int) (j : Nat) (x : Int) (hx : L[j]? = some x) : rm (L.take (j + 1)) k = rm (L.take j) k ++ (if x = k then [] else [x]) := by
  unfold rm
  rw [List.take_add_one, hx, List.filter_append]
  congr 1
  by_cases h : x = k <;> simp [h]
/-- A line of the first N, in whatever order. -/
def Ln (L : List Int) (N : Nat) : Prop := L.Nodup ∧ L.length = N ∧ ∀ x, x ∈ L ↔ 0 ≤ x ∧ x < (N : Int)
theorem Ln.start (N : Nat) : Ln (rng N) N := ⟨rng_nodup N, rng_len N, rng_mem N⟩
theorem Ln.turn {L : List Int} {N : Nat} {k : Int} (h : Ln L N) (h0 : 0 ≤ k) (h1 : k < N) : Ln (rm L k ++ [k]) N := by
  obtain ⟨hn, hl, hm⟩ := h
  have hk : k ∈ L := (hm k).2 ⟨h0, h1⟩
  refine ⟨?_, by rw [List.length_append, List.length_singleton, rm_len hn hk, hl], fun x => ?_⟩
  · rw [List.nodup_append]
    refine ⟨hn.filter _, by simp, fun a ha b hb => ?_⟩
    simp only [List.mem_singleton] at hb
    have := (List.mem_filter.1 ha).2
    simp only [decide_eq_true_eq] at this
    rw [hb]; exact this
  · rw [List.mem_append, List.mem_singleton, ← hm x]
    constructor
    · rintro (h | rfl)
      · exact (List.mem_filter.1 h).1
      · exact hk
    · intro h
      by_cases e : x = k
      · exact .inr e
      · exact .inl (List.mem_filter.2 ⟨h, by simpa using e⟩)
/-- Who is due, all at T, in the order of a line. -/
def Al (P : List Wi.D) (T : Nat) (L : List Int) : Prop := P.map (·.k) = L ∧ ∀ y ∈ P, y.t = T
theorem Al.len {P : List Wi.D} {T : Nat} {L : List Int} (h : Al P T L) : P.length = L.length := by rw [← h.1, List.length_map]
theorem Al.rem {P : List Wi.D} {T : Nat} {L : List Int} (h : Al P T L) (k : Int) : Al (P.filter fun y => decide (y.k ≠ k)) T (rm L k) := by
  refine ⟨?_, fun y hy => h.2 y (List.mem_filter.1 hy).1⟩
  rw [← h.1]
  unfold rm
  rw [List.filter_map]; rfl
theorem Al.add {P : List Wi.D} {T : Nat} {L : List Int} (h : Al P T L) (k : Int) (s : Nat) : Al (P ++ [⟨k, T, s⟩]) T (L ++ [k]) := by
  refine ⟨by rw [List.map_append, h.1]; rfl, fun y hy => ?_⟩
  rcases List.mem_append.1 hy with hy | hy
  · exact h.2 y hy
  · simp only [List.mem_singleton] at hy
    subst hy; rfl
theorem Al.twice {P : List Wi.D} {T U : Nat} {L : List Int} (h : Al P T L) (k : Int) (s s' : Nat) : Al ((P.filter (fun y => decide (y.k ≠ k)) ++ [(⟨k, U, s⟩ : Wi.D)]).filter (fun y => decide (y.k ≠ k)) ++ [⟨k, T, s'⟩]) T (rm L k ++ [k]) := by
  have e : (P.filter (fun y => decide (y.k ≠ k)) ++ [(⟨k, U, s⟩ : Wi.D)]).filter (fun y => decide (y.k ≠ k)) = P.filter (fun y => decide (y.k ≠ k)) := by
    rw [List.filter_append, List.filter_filter]
    simp
  rw [e]
  exact (h.rem k).add k s'
theorem Al.any {P : List Wi.D} {T : Nat} {L : List Int} (h : Al P T L) (k : Int) : (P.any fun y => decide (y.k = k)) = decide (k ∈ L) := by
  rw [Bool.eq_iff_iff, List.any_eq_true, decide_eq_true_iff, ← h.1, List.mem_map]
  simp only [decide_eq_true_eq]
theorem Al.early {P : List Wi.D} {T t : Nat} {L : List Int} (h : Al P T L) (ht : t ≠ T) : P.filter (fun y => decide (y.t ≠ t)) = P ∧ P.filter (fun y => decide (y.t = t)) = [] := by
  refine ⟨List.filter_eq_self.2 fun y hy => ?_, List.filter_eq_nil_iff.2 fun y hy => ?_⟩
  · rw [h.2 y hy]; simpa using Ne.symm ht
  · rw [h.2 y hy]; simpa using Ne.symm ht
theorem Al.now {P : List Wi.D} {T : Nat} {L : List Int} (h : Al P T L) : P.filter (fun y => decide (y.t ≠ T)) = [] ∧ (P.filter (fun y => decide (y.t = T))).map (·.k) = L := by
  have e : P.filter (fun y => decide (y.t = T)) = P := List.filter_eq_self.2 fun y hy => by rw [h.2 y hy]; simp
  refine ⟨List.filter_eq_nil_iff.2 fun y hy => ?_, by rw [e]; exact h.1⟩
  rw [h.2 y hy]; simp
set_option maxRecDepth 100000 in
set_option maxHeartbeats 8000000 in
theorem anew_in (n N M c3 : Nat) (x2 x4 : Int) (h1 : 1 ≤ n) (h2 : n ≤ 64) (h3 : 1 ≤ N) (h4 : N ≤ 20) (h5 : M ≤ 40) (a3 : Option Addr) (Z : List Int) (w : World) (hI : Ints w a3 M Z) :
    Calls Try.prog 4 #[.int .i64 n, .int .i64 N, .int .i64 x2, .slice a3 M c3, .int .i64 x4] w fun e w' => e = .returned (.bool true) ∧ Below w.heap.size w w' := by
  have HI := Lib.hid hI.inb
  have d1 : decide ((n : Int) < 1) = false := by simp; omega
  have d2 : decide (64 < (n : Int)) = false := by simp; omega
  have d3 : decide ((N : Int) < 1) = false := by simp; omega
  have d4 : decide (20 < (N : Int)) = false := by simp; omega
  have d5 : decide (40 < (M : Int)) = false := by simp; omega
  clear hI
  go_enter Try.func4, Try.ntmps4
  go_wp2_with fail
  refine (Wi.new_wx n h1 (by omega) w).mono ?_
  rintro e w1 ⟨hb1, p, F1, rfl, hx⟩
  have HB := Lib.hid hb1
  have HX := Lib.hid hx
  clear hb1 hx d1 d2 d3 d4 d5
  go_wp2_with fail
  refine (round_big x2 100 (by omega) (by omega) _).mono ?_
  rintro e w2 ⟨rfl, rfl⟩
  have t0 : 0 ≤ x2 % 100 := Int.emod_nonneg _ (by omega)
  have t1 : x2 % 100 < 100 := Int.emod_lt_of_pos _ (by omega)
  go_wp2_with fail
  obtain ⟨T, hT⟩ : ∃ T : Nat, T = 1 + (x2 % 100).toNat := ⟨_, rfl⟩
  rw [show ((1 : Int) + x2 % 100) = (T : Int) by omega]
  have hT1 : 1 ≤ T := by omega
  have hT2 : T ≤ 100 := by omega
  clear hT t0 t1
  go_loopw [14, 15] (fun s14 s15 wr => ∃ k : Nat, s15 = .int .i64 (k : Nat) ∧ k ≤ N ∧ (∃ F P, Wi.Wx wr w.heap.size F p n P 0 k ∧ Al P T (rng k) ∧ Wi.Rs wr F w.heap.size s14 (rng k)) ∧ Below w.heap.size w wr) (fun _ s15 _ => N - (intOf s15).toNat)
  case atStart => exact ⟨0, rfl, Nat.zero_le _, ⟨F1, [], HX.out, ⟨rfl, by simp⟩, Wi.Rs.nil _ _ _⟩, HB.out⟩
  case round =>
    clear HX HB
    obtain ⟨k, rfl, hk, ⟨F, P, hx, ha, hr⟩, hb⟩ := hrel
    have HX := Lib.hid hx
    have HA := Lib.hid ha
    have HR := Lib.hid hr
    have HB := Lib.hid hb
    clear hx ha hr hb
    by_cases hlt : k < N
    · have hltz : (k : Int) < (N : Int) := by omega
      go_wp2_with fail
      refine (Wi.set_wx (k : Int) T HX.out (by omega) (by omega) (by omega) (by rw [HA.out.len, rng_len]; omega)).mono ?_
      rintro e w3 ⟨rfl, ⟨F3, h3', hg⟩, hm⟩
      have HA3 := Lib.hid (show Al _ T (rng (k + 1)) from by
        have := (HA.out.rem (k : Int)).add (k : Int) (k + 1)
        rwa [rm_not (fun h => by have := (rng_mem k _).1 h; omega), ← rng_next] at this)
      have HR3 := Lib.hid (HR.out.step hm hg)
      have HB3 := Lib.hid (HB.out.trans (mod_below hm HB.out.size (fun g hg => (HX.out.fb g hg).1)))
      have HX3 := Lib.hid h3'
      clear h3' hg hm HX HR HB HA
      go_wp2_with (at_builtin; refine wpList_sl_app1 (y := (k : Int)) rfl Wi.keyL_len Wi.keyL_one Wi.slK Wi.infoK rfl (by decide) HR3.out.1 rfl (by rw [rng_len]; unfold maxLen; omega) (by rw [rng_len]; omega) HB3.out.size rfl rfl rfl rfl ?_; intro v' W5 hs5 hm5 ho5; have HS5 := Lib.hid hs5; have HM5 := Lib.hid hm5; have HO5 := Lib.hid ho5; clear hs5 hm5 ho5)
      have hap := HR3.out.app HX3.out HS5.out HM5.out HO5.out
      rw [← rng_next] at hap
      have H6 := Lib.hid (And.intro hap (HB3.out.trans (mod_below HM5.out HB3.out.size (fun g hg => (HR3.out.1.ge hg).1))))
      clear hap HX3 HR3 HB3 HS5 HM5 HO5
      go_wp2_with fail
      go_roundw
      case rel => exact ⟨k + 1, by simp, by omega, ⟨F3, _, H6.out.1.2, HA3.out, H6.out.1.1⟩, H6.out.2⟩
      case measure => simp [intOf] <;> omega
    · have hltz : ¬ (k : Int) < (N : Int) := by omega
      have hkn : k = N := by omega
      subst hkn
      have HLN := Lib.hid (Ln.start k)
      obtain ⟨N, hN⟩ : ∃ N, N = k := ⟨_, rfl⟩
      rw [← hN] at HX HA HR h3 h4 hltz HLN ⊢
      clear hN hlt hk
      go_wp2_with fail
      go_loopw [14, 16, 17, 18, 19] (fun s14 s16 _ _ _ wr => ∃ i : Nat, s16 = .int .i64 (i : Nat) ∧ i ≤ M ∧ (∃ F P L sq, Wi.Wx wr w.heap.size F p n P 0 sq ∧ sq ≤ N + 2 * i ∧ Al P T L ∧ Wi.Rs wr F w.heap.size s14 L ∧ Ln L N) ∧ Below w.heap.size w wr) (fun _ s16 _ _ _ _ => M - (intOf s16).toNat)
      case atStart => exact ⟨0, rfl, Nat.zero_le _, ⟨F, P, rng N, N, HX.out, by omega, HA.out, HR.out, HLN.out⟩, HB.out⟩
      case round =>
        clear HX HA HR HB HLN
        obtain ⟨i, rfl, hi, ⟨F, P, L, sq, hx, hsq, ha, hr, hln⟩, hb⟩ := hrel
        have HX := Lib.hid hx
        have HA := Lib.hid ha
        have HR := Lib.hid hr
        have HB := Lib.hid hb
        have HLN := Lib.hid hln
        clear hx ha hr hb hln
        obtain ⟨al, cl, hal⟩ := HR.out.1.form
        rw [HLN.out.2.1] at hal
        subst hal
        by_cases hlt : i < M
        · have hltz : (i : Int) < (M : Int) := by omega
          obtain ⟨b, o, rfl, hbl, hc⟩ := (HI.out.below HB.out).2 (by omega)
          have c0 := hc i hlt
          obtain ⟨x, hxx⟩ : ∃ x, x = Z.getD i 0 := ⟨_, rfl⟩
          rw [← hxx] at c0
          clear hc hxx
          go_wp2_with fail
          refine (round_big x N (by omega) (by omega) _).mono ?_
          rintro e w3 ⟨rfl, rfl⟩
          obtain ⟨kx, hkx⟩ : ∃ kx, kx = x % (N : Int) := ⟨_, rfl⟩
          rw [← hkx]
          have hk0 : 0 ≤ kx := by rw [hkx]; exact Int.emod_nonneg _ (by omega)
          have hk1 : kx < N := by rw [hkx]; exact Int.emod_lt_of_pos _ (by omega)
          clear hkx c0 hbl
          go_wp2_with fail
          refine (Wi.set_wx kx (T + 1) HX.out (by omega) (by omega) (by omega) (by rw [HA.out.len, HLN.out.2.1]; omega)).mono ?_
          rintro e w4 ⟨rfl, ⟨F4, h4', hg4⟩, hm4⟩
          replace HR := Lib.hid (HR.out.step hm4 hg4)
          replace HB := Lib.hid (HB.out.trans (mod_below hm4 HB.out.size (fun g hg => (HX.out.fb g hg).1)))
          have hl4 : (P.filter (fun y => decide (y.k ≠ kx)) ++ [(⟨kx, T + 1, sq + 1⟩ : Wi.D)]).length ≤ 100 := by
            have h1 := List.length_filter_le (fun y : Wi.D => decide (y.k ≠ kx)) P
            have h2 := HA.out.len
            have h3 := HLN.out.2.1
            rw [List.length_append, List.length_singleton]; omega
          replace HX := Lib.hid h4'
          clear h4' hg4 hm4
          go_wp2_with fail
          refine (Wi.set_wx kx T HX.out (by omega) (by omega) (by omega) (by omega)).mono ?_
          rintro e w5 ⟨rfl, ⟨F5, h5', hg5⟩, hm5⟩
          replace HR := Lib.hid (HR.out.step hm5 hg5)
          replace HB := Lib.hid (HB.out.trans (mod_below hm5 HB.out.size (fun g hg => (HX.out.fb g hg).1)))
          replace HX := Lib.hid h5'
          replace HA := Lib.hid (HA.out.twice (U := T + 1) kx (sq + 1) (sq + 1 + 1))
          generalize ((P.filter (fun y => decide (y.k ≠ kx)) ++ [(⟨kx, T + 1, sq + 1⟩ : Wi.D)]).filter (fun y => decide (y.k ≠ kx)) ++ [(⟨kx, T, sq + 1 + 1⟩ : Wi.D)]) = P5 at *
          obtain ⟨sq5, hsq5⟩ : ∃ s, s = sq + 1 + 1 := ⟨_, rfl⟩
          rw [← hsq5] at HX
          have hsq6 : sq5 ≤ N + 2 * (i + 1) := by omega
          clear h5' hg5 hm5 hl4 hsq5 hsq
          go_wp2_with fail
          go_loopw [18, 19] (fun sv sj wr => ∃ j : Nat, sj = .int .i64 (j : Nat) ∧ j ≤ N ∧ Wi.Rs wr F5 w.heap.size sv (rm (L.take j) kx) ∧ Wi.Rs wr F5 w.heap.size (.slice al N cl) L ∧ Wi.Wx wr w.heap.size F5 p n P5 0 sq5 ∧ Below w.heap.size w wr ∧ ∀ g, sv.ownBlock = some g → (Value.slice al N cl).ownBlock ≠ some g) (fun _ sj _ => N - (intOf sj).toNat)
          case atStart => exact ⟨0, rfl, Nat.zero_le _, Wi.Rs.nil _ _ _, HR.out, HX.out, HB.out, fun g hg => by cases hg⟩
          case round =>
            clear HX HR HB
            obtain ⟨j, rfl, hj, hv, hr, hx, hb, hd⟩ := hrel
            have HV := Lib.hid hv
            have HR := Lib.hid hr
            have HX := Lib.hid hx
            have HB := Lib.hid hb
            have HD := Lib.hid hd
            clear hv hr hx hb hd
            by_cases hjn : j < N
            · have hjz : (j : Int) < (N : Int) := by omega
              obtain ⟨b, o, hal, hbl, hc⟩ := (ints_of_rd (HR.out.1.rd Wi.keyL_len).1).2 (by omega)
              have hc0 := hc j hjn
              obtain ⟨y, hy⟩ : ∃ y, L[j]? = some y := ⟨_, List.getElem?_eq_getElem (by have := HLN.out.2.1; omega)⟩
              rw [List.getD_eq_getElem?_getD, hy, Option.getD_some] at hc0
              have HY := Lib.hid hy
              have HAL := Lib.hid hal
              rw [hal]
              have hlen := HLN.out.2.1
              have hsz : (rm (L.take j) kx).length ≤ 60 := Nat.le_trans (List.length_filter_le _ _) (by rw [List.length_take]; omega)
              clear hc hy hal hlen
              by_cases hyk : y = kx
              · have HYK := Lib.hid hyk
                have hq : (y != kx) = false := by rw [hyk]; exact bne_self_eq_false _
                clear hyk
                go_wp2_with fail
                go_roundw
                case rel => exact ⟨j + 1, by simp, by omega, by rw [rm_take L _ j y HY.out, if_pos HYK.out, List.append_nil]; exact HV.out, by rw [← HAL.out]; exact HR.out, HX.out, HB.out, by rw [← HAL.out]; exact HD.out⟩
                case measure => simp [intOf] <;> omega
              · have HYK := Lib.hid hyk
                have hq : (y != kx) = true := by rw [bne_iff_ne]; exact hyk
                clear hyk
                go_wp2_with (at_builtin; refine wpList_sl_app1 (y := y) rfl Wi.keyL_len Wi.keyL_one Wi.slK Wi.infoK rfl (by decide) HV.out.1 rfl (by unfold maxLen; omega) (by omega) HB.out.size rfl rfl rfl rfl ?_; intro v' W5 hs5 hm5 ho5; have HS5 := Lib.hid hs5; have HM5 := Lib.hid hm5; have HO5 := Lib.hid ho5; clear hs5 hm5 ho5)
                have hap := HV.out.app HX.out HS5.out HM5.out HO5.out
                have hrs := HR.out.other HM5.out HD.out
                have hbb := HB.out.trans (mod_below HM5.out HB.out.size (fun g hg => (HV.out.1.ge hg).1))
                have hdd : ∀ g, v'.ownBlock = some g → (Value.slice al N cl).ownBlock ≠ some g := fun g hg => by
                  rcases HO5.out with e | ⟨q, e, hq⟩
                  · exact HD.out g (e ▸ hg)
                  · intro hh
                    rw [e] at hg
                    simp only [Option.some.injEq] at hg
                    have := (HR.out.1.ge hh).2
                    omega
                have H6 := Lib.hid (And.intro hap (And.intro hrs (And.intro hbb hdd)))
                clear hap hrs hbb hdd HV HX HR HB HD HS5 HM5 HO5
                go_wp2_with fail
                go_roundw
                case rel => exact ⟨j + 1, by simp, by omega, by rw [rm_take L _ j y HY.out, if_neg HYK.out]; exact H6.out.1.1, by rw [← HAL.out]; exact H6.out.2.1, H6.out.1.2, H6.out.2.2.1, by rw [← HAL.out]; exact H6.out.2.2.2⟩
                case measure => simp [intOf] <;> omega
            · have hjz : ¬ (j : Int) < (N : Int) := by omega
              have hjn2 : j = N := by omega
              have htk : L.take j = L := List.take_of_length_le (by have := HLN.out.2.1; omega)
              rw [htk] at HV
              clear htk HR hjn
              subst hjn2
              have hsv : (rm L kx).length ≤ 60 := Nat.le_trans (List.length_filter_le _ _) (by rw [HLN.out.2.1]; omega)
              go_wp2_with (at_builtin; refine wpList_sl_app1 (y := kx) rfl Wi.keyL_len Wi.keyL_one Wi.slK Wi.infoK rfl (by decide) HV.out.1 rfl (by unfold maxLen; omega) (by omega) HB.out.size rfl rfl rfl rfl ?_; intro v' W5 hs5 hm5 ho5; have HS5 := Lib.hid hs5; have HM5 := Lib.hid hm5; have HO5 := Lib.hid ho5; clear hs5 hm5 ho5)
              have hap := HV.out.app HX.out HS5.out HM5.out HO5.out
              have H6 := Lib.hid (And.intro hap (HB.out.trans (mod_below HM5.out HB.out.size (fun g hg => (HV.out.1.ge hg).1))))
              clear hap HX HV HB HS5 HM5 HO5 HD
              go_wp2_with fail
              go_roundw
              case rel => exact ⟨i + 1, by simp, by omega, ⟨F5, P5, rm L kx ++ [kx], sq5, H6.out.1.2, hsq6, HA.out, H6.out.1.1, HLN.out.turn hk0 hk1⟩, H6.out.2⟩
              case measure => simp [intOf] <;> omega
        · have hltz : ¬ (i : Int) < (M : Int) := by omega
          go_wp2_with fail
          refine (round_big x4 N (by omega) (by omega) _).mono ?_
          rintro e w3 ⟨rfl, rfl⟩
          obtain ⟨ox, hox⟩ : ∃ ox, ox = x4 % (N : Int) := ⟨_, rfl⟩
          rw [← hox]
          have hk0 : 0 ≤ ox := by rw [hox]; exact Int.emod_nonneg _ (by omega)
          have hk1 : ox < N := by rw [hox]; exact Int.emod_lt_of_pos _ (by omega)
          have hmem : ox ∈ L := (HLN.out.2.2 ox).2 ⟨hk0, hk1⟩
          have hlP : P.length ≤ 20 := by rw [HA.out.len, HLN.out.2.1]; exact h4
          have hany := HA.out.any ox
          rw [decide_eq_true hmem] at hany
          have HA1 := Lib.hid (HA.out.rem ox)
          have hany2 := HA1.out.any ox
          rw [decide_eq_false (fun h => by have := (List.mem_filter.1 h).2; simp at this)] at hany2
          have hff : (P.filter (fun y => decide (y.k ≠ ox))).filter (fun y => decide (y.k ≠ ox)) = P.filter (fun y => decide (y.k ≠ ox)) := by rw [List.filter_filter]; simp
          have hl1 : (P.filter (fun y => decide (y.k ≠ ox))).length + 1 = N := by rw [HA1.out.len, rm_len HLN.out.1 hmem]; exact HLN.out.2.1
          generalize hP1 : P.filter (fun y => decide (y.k ≠ ox)) = P1 at *
          have HANY := Lib.hid (And.intro hany (And.intro hany2 hff))
          have HP1 := Lib.hid hP1
          clear hox hany hany2 hff hP1 hmem
          go_wp2_with fail
          refine (Wi.drop_wx ox HX.out (by omega)).mono ?_
          rintro e w4 ⟨rfl, hx4, hm4⟩
          rw [HANY.out.1]
          rw [HP1.out] at hx4
          replace HR := Lib.hid (HR.out.step hm4 (fun g hg => .inl hg))
          replace HB := Lib.hid (HB.out.trans (mod_below hm4 HB.out.size (fun g hg => (HX.out.fb g hg).1)))
          replace HX := Lib.hid hx4
          clear hx4 hm4
          go_wp2_with fail
          refine (Wi.drop_wx ox HX.out (by omega)).mono ?_
          rintro e w5 ⟨rfl, hx5, hm5⟩
          rw [HANY.out.2.1]
          rw [HANY.out.2.2] at hx5
          replace HR := Lib.hid (HR.out.step hm5 (fun g hg => .inl hg))
          replace HB := Lib.hid (HB.out.trans (mod_below hm5 HB.out.size (fun g hg => (HX.out.fb g hg).1)))
          replace HX := Lib.hid hx5
          clear hx5 hm5
          go_wp2_with fail
          refine (Wi.len_wx HX.out).mono ?_
          rintro e w6 ⟨rfl, rfl⟩
          rw [show ((P1.length : Nat) : Int) = (N : Int) - 1 by omega]
          clear HANY HP1 hlP HA
          go_wp2_with fail
          go_loopw [21, 22] (fun sv sj wr => ∃ j : Nat, sj = .int .i64 (j : Nat) ∧ j ≤ N ∧ Wi.Rs wr F w.heap.size sv (rm (L.take j) ox) ∧ Wi.Rs wr F w.heap.size (.slice al N cl) L ∧ Wi.Wx wr w.heap.size F p n P1 0 sq ∧ Below w.heap.size w wr ∧ ∀ g, sv.ownBlock = some g → (Value.slice al N cl).ownBlock ≠ some g) (fun _ sj _ => N - (intOf sj).toNat)
          case atStart => exact ⟨0, rfl, Nat.zero_le _, Wi.Rs.nil _ _ _, HR.out, HX.out, HB.out, fun g hg => by cases hg⟩
          case round =>
            clear HX HR HB
            obtain ⟨j, rfl, hj, hv, hr, hx, hb, hd⟩ := hrel
            have HV := Lib.hid hv
            have HR := Lib.hid hr
            have HX := Lib.hid hx
            have HB := Lib.hid hb
            have HD := Lib.hid hd
            clear hv hr hx hb hd
            by_cases hjn : j < N
            · have hjz : (j : Int) < (N : Int) := by omega
              obtain ⟨b, o, hal, hbl, hc⟩ := (ints_of_rd (HR.out.1.rd Wi.keyL_len).1).2 (by omega)
              have hc0 := hc j hjn
              obtain ⟨y, hy⟩ : ∃ y, L[j]? = some y := ⟨_, List.getElem?_eq_getElem (by have := HLN.out.2.1; omega)⟩
              rw [List.getD_eq_getElem?_getD, hy, Option.getD_some] at hc0
              have HY := Lib.hid hy
              have HAL := Lib.hid hal
              rw [hal]
              have hlen := HLN.out.2.1
              have hsz : (rm (L.take j) ox).length ≤ 60 := Nat.le_trans (List.length_filter_le _ _) (by rw [List.length_take]; omega)
              clear hc hy hal hlen
              by_cases hyk : y = ox
              · have HYK := Lib.hid hyk
                have hq : (y != ox) = false := by rw [hyk]; exact bne_self_eq_false _
                clear hyk
                go_wp2_with fail
                go_roundw
                case rel => exact ⟨j + 1, by simp, by omega, by rw [rm_take L _ j y HY.out, if_pos HYK.out, List.append_nil]; exact HV.out, by rw [← HAL.out]; exact HR.out, HX.out, HB.out, by rw [← HAL.out]; exact HD.out⟩
                case measure => simp [intOf] <;> omega
              · have HYK := Lib.hid hyk
                have hq : (y != ox) = true := by rw [bne_iff_ne]; exact hyk
                clear hyk
                go_wp2_with (at_builtin; refine wpList_sl_app1 (y := y) rfl Wi.keyL_len Wi.keyL_one Wi.slK Wi.infoK rfl (by decide) HV.out.1 rfl (by unfold maxLen; omega) (by omega) HB.out.size rfl rfl rfl rfl ?_; intro v' W5 hs5 hm5 ho5; have HS5 := Lib.hid hs5; have HM5 := Lib.hid hm5; have HO5 := Lib.hid ho5; clear hs5 hm5 ho5)
                have hap := HV.out.app HX.out HS5.out HM5.out HO5.out
                have hrs := HR.out.other HM5.out HD.out
                have hbb := HB.out.trans (mod_below HM5.out HB.out.size (fun g hg => (HV.out.1.ge hg).1))
                have hdd : ∀ g, v'.ownBlock = some g → (Value.slice al N cl).ownBlock ≠ some g := fun g hg => by
                  rcases HO5.out with e | ⟨q, e, hq⟩
                  · exact HD.out g (e ▸ hg)
                  · intro hh
                    rw [e] at hg
                    simp only [Option.some.injEq] at hg
                    have := (HR.out.1.ge hh).2
                    omega
                have H6 := Lib.hid (And.intro hap (And.intro hrs (And.intro hbb hdd)))
                clear hap hrs hbb hdd HV HX HR HB HD HS5 HM5 HO5
                go_wp2_with fail
                go_roundw
                case rel => exact ⟨j + 1, by simp, by omega, by rw [rm_take L _ j y HY.out, if_neg HYK.out]; exact H6.out.1.1, by rw [← HAL.out]; exact H6.out.2.1, H6.out.1.2, H6.out.2.2.1, by rw [← HAL.out]; exact H6.out.2.2.2⟩
                case measure => simp [intOf] <;> omega
            · have hjz : ¬ (j : Int) < (N : Int) := by omega
              have hjn2 : j = N := by omega
              have htk : L.take j = L := List.take_of_length_le (by have := HLN.out.2.1; omega)
              rw [htk] at HV
              clear htk HR hjn
              subst hjn2
              clear HD
              go_wp2_with fail
              go_loopw [23] (fun s23 wr => ∃ q : Nat, s23 = .int .i64 (q + 1 : Nat) ∧ q < T ∧ (∃ F, Wi.Wx wr w.heap.size F p n P1 q sq ∧ Wi.Rs wr F w.heap.size u21 (rm L ox)) ∧ Below w.heap.size w wr) (fun s23 _ => T - (intOf s23).toNat)
              case atStart => exact ⟨0, rfl, by omega, ⟨F, HX.out, HV.out⟩, HB.out⟩
              case round =>
                clear HX HV HB
                obtain ⟨q, rfl, hq, ⟨F, hx, hv⟩, hb⟩ := hrel
                have HX := Lib.hid hx
                have HV := Lib.hid hv
                have HB := Lib.hid hb
                clear hx hv hb
                by_cases hqt : q + 1 < T
                · have hqz : ((q + 1 : Nat) : Int) < (T : Int) := by omega
                  go_wp2_with fail
                  refine (Wi.tick_wx HX.out (by omega) (by omega)).mono ?_
                  rintro e w7 ⟨⟨F', out, rfl, h7, hg, hr⟩, hm⟩
                  have he := HA1.out.early (t := q + 1) (by omega)
                  rw [he.1] at h7
                  rw [he.2] at hr
                  obtain ⟨al', cl', rfl⟩ := hr.1.form
                  have HB7 := Lib.hid (HB.out.trans (mod_below hm HB.out.size (fun g hg => (HX.out.fb g hg).1)))
                  have H7 := Lib.hid h7
                  have HV7 := Lib.hid (HV.out.step hm hg)
                  clear h7 hr hm he hg
                  go_wp2_with fail
                  go_roundw
                  case rel => exact ⟨q + 1, by simp, by omega, ⟨F', H7.out, HV7.out⟩, HB7.out⟩
                  case measure => simp [intOf] <;> omega
                · have hqz : ¬ ((q + 1 : Nat) : Int) < (T : Int) := by omega
                  have hTq : T = q + 1 := by omega
                  subst hTq
                  clear hqt hq
                  go_wp2_with fail
                  refine (Wi.tick_wx HX.out (by omega) (by omega)).mono ?_
                  rintro e w7 ⟨⟨F7, out, rfl, h7, hg, hr⟩, hm⟩
                  rw [HA1.out.now.1] at h7
                  rw [HA1.out.now.2] at hr
                  have hlr : (rm L ox).length ≤ 60 := Nat.le_trans (List.length_filter_le _ _) (by have := HLN.out.2.1; omega)
                  replace HB := Lib.hid (HB.out.trans (mod_below hm HB.out.size (fun g hg => (HX.out.fb g hg).1)))
                  replace HV := Lib.hid (HV.out.step hm hg)
                  replace HX := Lib.hid h7
                  have HR := Lib.hid hr
                  obtain ⟨ao, co, rfl⟩ := hr.1.form
                  obtain ⟨av, cv, rfl⟩ := HV.out.1.form
                  clear h7 hg hr hm
                  generalize hlw : (rm L ox).length = lw at *
                  have i1 := ints_of_rd (HR.out.1.rd Wi.keyL_len).1
                  have i2 := ints_of_rd (HV.out.1.rd Wi.keyL_len).1
                  have HI1 := Lib.hid (And.intro i1 i2)
                  clear i1 i2
                  go_wp2_with fail
                  refine (ints_any ao lw co (rm L ox) av lw cv (rm L ox) _ HI1.out.1 HI1.out.2 (by omega) (by omega)).mono ?_
                  rintro e w8 ⟨rfl, hb8⟩
                  rw [beq_self_eq_true]
                  replace HB := Lib.hid (step_below HB.out hb8)
                  replace HX := Lib.hid (HX.out.below hb8)
                  clear hb8 HI1 HR HV
                  go_wp2_with fail
                  refine (Wi.tick_wx HX.out (by omega) (by simp)).mono ?_
                  rintro e w9 ⟨⟨F9, out, rfl, h9, -, hr⟩, hm⟩
                  replace HB := Lib.hid (HB.out.trans (mod_below hm HB.out.size (fun g hg => (HX.out.fb g hg).1)))
                  replace HX := Lib.hid (show Wi.Wx w9 _ F9 p n [] _ sq from h9)
                  obtain ⟨ao, co, rfl⟩ := (show Wi.Rs w9 F9 _ out [] from hr).1.form
                  clear h9 hr hm
                  go_wp2_with fail
                  refine (Wi.len_wx HX.out).mono ?_
                  rintro e w10 ⟨rfl, rfl⟩
                  go_wp2_with fail
                  refine (awake_any _).mono ?_
                  rintro e w11 ⟨rfl, hb⟩
                  have HB3 := Lib.hid (step_below HB.out hb)
                  clear hb
                  go_wp2_with fail
                  go_ret
                  exact ⟨rfl, HB3.out⟩
set_option maxRecDepth 100000 in
set_option maxHeartbeats 1000000 in
theorem anew_law (a0 a1 a2 : Int) (a3 : Option Addr) (n3 c3 : Nat) (z3 : List Int) (a4 : Int) (w : World) (_ : (Lit.int .i64 a0).wf = true) (_ : (Lit.int .i64 a1).wf = true) (_ : (Lit.int .i64 a2).wf = true) (h3 : IsRow .i64 w a3 n3 c3 z3) (_ : (Lit.int .i64 a4).wf = true) :
    Calls Try.prog 4 #[.int .i64 a0, .int .i64 a1, .int .i64 a2, .slice a3 n3 c3, .int .i64 a4] w fun e w' => e = .returned (.bool true) ∧ Below w.heap.size w w' := by
  obtain ⟨hI, hlen, -⟩ := h3.ints
  by_cases hg : 1 ≤ a0 ∧ a0 ≤ 64 ∧ 1 ≤ a1 ∧ a1 ≤ 20 ∧ n3 ≤ 40
  · obtain ⟨g1, g2, g3, g4, g5⟩ := hg
    obtain ⟨n, rfl⟩ := Int.eq_ofNat_of_zero_le (show 0 ≤ a0 by omega)
    obtain ⟨N, rfl⟩ := Int.eq_ofNat_of_zero_le (show 0 ≤ a1 by omega)
    exact anew_in n N n3 c3 a2 a4 (by omega) (by omega) (by omega) (by omega) g5 a3 _ w hI
  · have hcase : a0 < 1 ∨ (decide (a0 < 1) = false ∧ 64 < a0) ∨ (decide (a0 < 1) = false ∧ decide (64 < a0) = false ∧ a1 < 1) ∨ (decide (a0 < 1) = false ∧ decide (64 < a0) = false ∧ decide (a1 < 1) = false ∧ 20 < a1) ∨ (decide (a0 < 1) = false ∧ decide (64 < a0) = false ∧ decide (a1 < 1) = false ∧ decide (20 < a1) = false ∧ (40 : Int) < (n3 : Int)) := by
      simp only [decide_eq_false_iff_not]; omega
    clear hg hI
    rcases hcase with q1 | ⟨q1, q2⟩ | ⟨q1, q2, q3⟩ | ⟨q1, q2, q3, q4⟩ | ⟨q1, q2, q3, q4, q5⟩ <;>
    · go_enter Try.func4, Try.ntmps4
      go_wp2_with fail
      refine (awake_any _).mono ?_
      rintro e w3 ⟨rfl, hb⟩
      go_wp2_with fail
      go_ret
      exact ⟨rfl, hb⟩
end Go.Proofs.Ytaadkehopfjclaa
