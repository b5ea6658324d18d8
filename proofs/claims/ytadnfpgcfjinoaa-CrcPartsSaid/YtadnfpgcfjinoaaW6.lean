import Derived.Test.YtadnfpgcfjinoaaW5
import Derived.Deep.Cut
namespace Go.Proofs.Ytadnfpgcfjinoaa
open Go.RowKit

def u8s (l : List Nat) : List Value := l.map fun c => .int .u8 (c : Nat)
theorem u8s_one (l : List Nat) : ∀ u ∈ u8s l, u.oneCell' = true := by
  intro u hu
  obtain ⟨c, _, rfl⟩ := List.mem_map.1 hu
  rfl
theorem rds_of_bytes {w : World} {a : Option Addr} {n : Nat} {l : List Nat} (h : Bytes w a n l) : Rds w 1 a n (u8s l) := by
  obtain ⟨h1, _, h3⟩ := h
  refine ⟨by simp [u8s, h1], fun hn => ?_⟩
  obtain ⟨b, o, rfl, hb, hc⟩ := h3 hn
  refine ⟨_, rfl, hb, fun j u hu => ?_⟩
  have hadd : (⟨b, o, none⟩ : Addr).add j = ⟨b, o + j, none⟩ := by unfold Addr.add; split <;> simp_all
  simp only [u8s, List.getElem?_map, Option.map_eq_some_iff] at hu
  obtain ⟨c, hc1, rfl⟩ := hu
  have hj : j < l.length := (List.getElem?_eq_some_iff.1 hc1).1
  rw [hadd, hc j (by omega), List.getD_eq_getElem?_getD, hc1]; rfl
theorem own_bytes {w : World} {B n : Nat} {v : Value} {l : List Nat} (h : w.ownsRow B 5 1 v n (u8s l)) (h8 : ∀ c ∈ l, c < 256) :
    ∃ ad cap, v = .slice ad n cap ∧ Bytes w ad n l ∧ (0 < n → ∃ gc cur, ad = some ⟨gc, 0, none⟩ ∧ B ≤ gc ∧ At w gc 5 cur ∧ ∀ i, i < n → cur[i]? = some (.int .u8 (l.getD i 0 : Nat))) := by
  obtain ⟨h1, h2⟩ := h
  have hl : l.length = n := by simpa [u8s] using h1
  rcases h2 with ⟨rfl, rfl⟩ | ⟨g, cap, cur, rfl, hB, hg, hnc, _, hcs, htake⟩
  · have : l = [] := List.eq_nil_of_length_eq_zero hl
    subst this
    exact ⟨none, 0, rfl, bytes_nil w, fun h => absurd h (by omega)⟩
  · have hc : ∀ i, i < n → cur[i]? = some (.int .u8 (l.getD i 0 : Nat)) := fun i hi => by
      have e : (cur.toList.take (n * 1))[i]? = (u8s l)[i]? := by rw [htake]
      rw [Nat.mul_one, List.getElem?_take, if_pos hi, Array.getElem?_toList] at e
      rw [e]
      simp [u8s, List.getD_eq_getElem?_getD, List.getElem?_eq_getElem (show i < l.length by omega)]
    exact ⟨_, cap, rfl, bytes_row hg hl h8 hc, fun _ => ⟨g, cur, rfl, hB, hg, hc⟩⟩
/-- A byte turned. -/
theorem bytes_set {w : World} {gc n i d : Nat} {cur : Array Value} {l : List Nat} (hl : l.length = n) (h8 : ∀ c ∈ l, c < 256) (hi : i < n) (hd : d < 256) (h : At w gc 5 cur) (hc : ∀ i, i < n → cur[i]? = some (.int .u8 (l.getD i 0 : Nat))) :
    Bytes (w.setCell ⟨gc, i, none⟩ (.int .u8 (d : Nat))) (some ⟨gc, 0, none⟩) n (l.set i d) := by
  refine bytes_row (h.set i _) (by rw [List.length_set, hl]) (fun c hc => ?_) (fun j hj => ?_)
  · rcases List.mem_or_eq_of_mem_set hc with h | h
    · exact h8 c h
    · omega
  · have hs : i < cur.size := (Array.getElem?_eq_some_iff.1 (hc i hi)).1
    rw [Array.getElem?_setIfInBounds, List.getD_eq_getElem?_getD, List.getElem?_set]
    by_cases e : i = j
    · subst e
      rw [if_pos rfl, if_pos hs, if_pos rfl, if_pos (by omega)]; rfl
    · rw [if_neg e, if_neg e, hc j hj, List.getD_eq_getElem?_getD]
theorem tab_below {w w' : World} {g p : Nat} (h1 : row w g = tabv p) (h2 : open_ w g = true) (hb : Below w.heap.size w w') : row w' g = tabv p ∧ open_ w' g = true ∧ g < w'.heap.size := by
  have hg := lt_of_open h2
  have hr := (Mod.of_below (M := fun _ => False) hb).rules
  exact ⟨(hr.2.1 g hg id).trans h1, (hr.2.2 g hg id).trans h2, by have := hb.size; omega⟩

theorem crc_turn' {p s : Nat} {l : List Nat} {i : Nat} {d : Nat} (hp : p < 4294967296) (ht : 2147483648 ≤ p) (hs : s < 4294967296) (hl : ∀ c ∈ l, c < 256) (hi : i < l.length) (hd : d < 256) (hne : d ≠ l.getD i 0) :
    crc p s (l.set i d) ≠ crc p s l :=
  crc_turn hp ht hs hl hi hd (by rw [List.getD_eq_getElem?_getD, List.getElem?_eq_getElem hi] at hne; exact hne)
theorem base_le {W : World} {o : Obj} {m : Nat} (h : W.heap.size = m) : m ≤ (W.alloc o).heap.size := by simp; omega
theorem base_le' {W V : World} {m : Nat} (h : W.heap.size = m) (hv : W.heap.size ≤ V.heap.size) : m ≤ V.heap.size := by omega
theorem own_le {W : World} {m n c k : Nat} (h : W.heap.size = m) (hk : (Value.slice (some ⟨m, 0, none⟩) n c).ownBlock = some k) : W.heap.size ≤ k := by
  simp [Value.ownBlock] at hk; omega
theorem own_made (w : World) (B n : Nat) (hn : n = w.heap.size) (hB : B ≤ n) : (w.alloc (.cells #[] 5)).ownsRow B 5 1 (.slice (some ⟨n, 0, none⟩) 0 0) 0 (u8s []) := by
  subst hn
  exact World.ownsRow_made w #[] 0 hB (by unfold maxLen; omega) rfl

set_option maxHeartbeats 2000000 in
set_option maxRecDepth 100000 in
theorem parts_any (k : Int) (s : Nat) (hs : s < 4294967296) (a b : Option Addr) (na ca nb cb : Nat) (la lb : List Nat) (x y : Int) (w : World) (ha : Bytes w a na la) (hb : Bytes w b nb lb) :
    Calls Try.prog 4 #[.int .i64 k, .int .u32 s, .slice a na ca, .slice b nb cb, .int .i64 x, .int .i64 y] w fun e w' => e = .returned (.bool true) ∧ Below w.heap.size w w' := by
  have HA := Lib.hid ha
  have HB := Lib.hid hb
  clear ha hb
  by_cases hg : na ≤ 300 ∧ nb ≤ 300
  · obtain ⟨g1, g2⟩ := hg
    have hr0 : 0 ≤ k % 4 := by omega
    have hr1 : k % 4 < 4 := by omega
    go_enter Try.func4, Try.ntmps4
    go_wp2_with fail
    refine (known_any _).mono ?_
    rintro e w1 ⟨rfl, rfl⟩
    go_wp2_with fail
    refine (round_any _ 4 (by omega) (by omega) _).mono ?_
    rintro e w1 ⟨rfl, rfl⟩
    generalize k % 4 = r at *
    obtain ⟨r, rfl⟩ := Int.eq_ofNat_of_zero_le hr0
    have hpr := polys_get r (by omega)
    go_wp2_with fail
    refine (make_any _ (poly_lt r) _).mono ?_
    rintro e w1 ⟨rfl, rfl⟩
    have hp := poly_lt r
    have htop := poly_top r
    clear hpr
    generalize poly r = p at *
    have hz := zero26 p
    have hst := store26 p p 0
    obtain ⟨w0, hw0⟩ : ∃ w0, w0 = w.alloc (.cells #[.int .u32 (poly 0 : Nat), .int .u32 (poly 1 : Nat), .int .u32 (poly 2 : Nat), .int .u32 (poly 3 : Nat)] 22) := ⟨_, rfl⟩
    have hw0b : Below w.heap.size w w0 := by rw [hw0]; exact (Below.refl _ _).alloc (Nat.le_refl _) _
    rw [← hw0]
    clear hw0
    obtain ⟨i0, hi, hz0, hz1, hz2⟩ := info_parts info5
    obtain ⟨W, hW⟩ : ∃ W, W = (w0.alloc (.cells (tabv p) 26)).alloc (.cells (tabv p) 26) := ⟨_, rfl⟩
    obtain ⟨hsz, hbel, _, hrow, hopen⟩ := tab_facts w0 W p hW
    have HB0 := Lib.hid (step_below hw0b hbel)
    have HA := Lib.hid (HA.out.below HB0.out (Nat.le_refl _))
    have HB := Lib.hid (HB.out.below HB0.out (Nat.le_refl _))
    have HRow := Lib.hid hrow
    have HOpen := Lib.hid hopen
    have HSZ := Lib.hid hsz
    have HW := Lib.hid hW
    clear hw0b hbel hrow hopen hsz hW
    have hmax : na + nb ≤ maxLen := by unfold maxLen; omega
    go_upto_region 5 with (fail)
    rw [← HW.out]
    apply wp_region_lit
    iterate 6 go_step
    refine wpList_app _ rfl _ _ 23 rfl W.heap.size 5 i0 (.int .u8 0) 1 1 Try.underlying23 hi hz0 hz1 hz2 rfl (by decide) _ (n := 0) _ rfl (own_made _ _ _ rfl (Nat.le_refl _)) _ (m := na) _ _ rfl (rds_of_bytes (HA.out.below ((Below.refl _ _).alloc (Nat.le_refl _) _) (Nat.le_refl _))) (u8s_one _) (by omega) (by omega) (base_le rfl) ?_
    intro v1 w1 hown1 hgr1 hat1
    have hbl1 : Below W.heap.size W w1 := ((Below.refl _ _).alloc (Nat.le_refl _) _).grown hgr1 (by simp) (fun k hk => own_le rfl hk)
    have HO1 := Lib.hid hown1
    have HL1 := Lib.hid hbl1
    clear hgr1 hat1 hown1 hbl1
    iterate 3 go_step
    refine wpList_app _ rfl _ _ 23 rfl W.heap.size 5 i0 (.int .u8 0) 1 1 Try.underlying23 hi hz0 hz1 hz2 rfl (by decide) _ (n := 0 + na) _ rfl HO1.out _ (m := nb) _ _ rfl (rds_of_bytes (HB.out.below HL1.out (Nat.le_refl _))) (u8s_one _) (by omega) (by omega) (base_le' rfl HL1.out.size) ?_
    intro v2 w2 hown2 hgr2 hat2
    have hbl2 : Below W.heap.size W w2 := HL1.out.grown hgr2 HL1.out.size (fun k hk => (HO1.out.lt k hk).1)
    clear hgr2 hat2 HL1 HO1
    obtain ⟨hrow2, hopen2, hgl2⟩ := tab_below HRow.out HOpen.out hbl2
    have e8 : u8s [] ++ u8s la ++ u8s lb = u8s (la ++ lb) := by simp [u8s]
    rw [e8] at hown2
    rw [show 0 + na + nb = na + nb from by omega] at hown2
    obtain ⟨c, cc, rfl, hcb, hcc⟩ := own_bytes hown2 (fun c hc => (List.mem_append.1 hc).elim (HA.out.2.1 c) (HB.out.2.1 c))
    have HC := Lib.hid hcb
    have HCC := Lib.hid hcc
    have HBL := Lib.hid hbl2
    clear hown2 hbl2 e8 hcb hcc
    go_wp2_with fail
    refine (of_any p hp s hs c (na + nb) cc (la ++ lb) _ HC.out (by omega)).mono ?_
    rintro e w' ⟨rfl, rfl⟩
    rw [crc_append]
    have hgg : w0.heap.size + 1 < W.heap.size := by have := HSZ.out; omega
    generalize w0.heap.size + 1 = g at *
    have hla := HA.out.2.1
    have hlb := HB.out.2.1
    have HLA := Lib.hid hla
    have HLB := Lib.hid hlb
    clear hla hlb hz hst
    have hgl2' : g < w2.heap.size + 1 := by omega
    have hgl2'' : g < w2.heap.size + 1 + 1 := by omega
    go_wp2_with fail
    refine region_sq (fun _ => False) [(0, true), (1, true), (2, true), (3, true), (4, true), (6, true), (5, false), (7, false), (8, true)] (by kernel_rfl) (by kernel_rfl) (fun _ _ d _ _ h => by cases d <;> exact h) ?_
    repeat (refine sq_yes rfl (by rfl) (fun w' hM => by ((try replace hM := hM.of_drew); obtain ⟨hR1, hR2, hR3⟩ := hM.rules; clear hM; go_simp; with_reducible rfl)) ?_; simp only [Act.put, List.setIfInBounds_toArray, List.set_cons_zero, List.set_cons_succ])
    refine sq_do_yes rfl (by rfl) (fun K hK => ?_)
    go_wp2_with fail
    refine (of_any p hp s hs a na ca la _ ((HA.out.below HBL.out (Nat.le_refl _)).below (by repeat first | exact Below.refl _ _ | refine Below.drew ?_ | refine Below.alloc ?_ (by simp <;> omega) _) (Nat.le_refl _)) (by omega)).mono ?_
    rintro e w' ⟨rfl, rfl⟩
    go_wp2_with fail
    refine ⟨(Mod.refl _ _).alloc _, ?_⟩
    repeat (refine sq_yes rfl (by rfl) (fun w' hM => by ((try replace hM := hM.of_drew); obtain ⟨hR1, hR2, hR3⟩ := hM.rules; clear hM; go_simp; with_reducible rfl)) ?_; simp only [Act.put, List.setIfInBounds_toArray, List.set_cons_zero, List.set_cons_succ])
    refine sq_do_yes rfl (by rfl) (fun K hK => ?_)
    go_wp2_with fail
    refine (of_any p hp (crc p s la) (crc_lt hp hs HLA.out) b nb cb lb _ ((HB.out.below HBL.out (Nat.le_refl _)).below (by repeat first | exact Below.refl _ _ | refine Below.drew ?_ | refine Below.alloc ?_ (by simp <;> omega) _) (Nat.le_refl _)) (by omega)).mono ?_
    rintro e w' ⟨rfl, rfl⟩
    go_wp2_with fail
    refine ⟨(Mod.refl _ _).alloc _, ?_⟩
    repeat (refine sq_yes rfl (by rfl) (fun w' hM => by ((try replace hM := hM.of_drew); obtain ⟨hR1, hR2, hR3⟩ := hM.rules; clear hM; go_simp; with_reducible rfl)) ?_; simp only [Act.put, List.setIfInBounds_toArray, List.set_cons_zero, List.set_cons_succ])
    refine sq_end ?_
    obtain ⟨X, hX⟩ : ∃ X, X = ((((w2.alloc (.cells (tabv p) 26)).alloc (.cells (tabv p) 26)).alloc (.cells (tabv p) 26))).drew := ⟨_, rfl⟩
    rw [← hX]
    have hbX : Below w2.heap.size w2 X := by rw [hX]; exact (by repeat first | exact Below.refl _ _ | refine Below.drew ?_ | refine Below.alloc ?_ (by simp <;> omega) _)
    have HBX := Lib.hid (step_below HBL.out hbX)
    obtain ⟨hrow3, hopen3, hgl3⟩ := tab_below hrow2 hopen2 hbX
    have HX := Lib.hid hbX
    clear hX hbX hrow2 hopen2 hgl2 hgl2' hgl2''
    by_cases hn0 : na + nb = 0
    · have e1 : crc p (crc p s la) lb = s := by
        have h1 : la = [] := List.eq_nil_of_length_eq_zero (by have := HA.out.1; omega)
        have h2 : lb = [] := List.eq_nil_of_length_eq_zero (by have := HB.out.1; omega)
        rw [h1, h2, crc_nil, crc_nil]
      rw [hn0, e1]
      go_wp2_with fail
      refine (awake_any _).mono ?_
      rintro e w' ⟨rfl, hbb⟩
      go_wp2_with fail
      go_ret
      exact ⟨rfl, step_below HB0.out (step_below HBX.out hbb)⟩
    · obtain ⟨gc, cur, rfl, hge, hat, hcur⟩ := HCC.out (by omega)
      have hzz : (((na + nb : Nat) : Int) == 0) = false := by simp; omega
      have hgn : gc < w2.heap.size := hat.lt
      have hat3 := hat.below HX.out hgn
      have hnpos : (0 : Int) < ((na + nb : Nat) : Int) := by omega
      have hi0 : 0 ≤ x % ((na + nb : Nat) : Int) := Int.emod_nonneg _ (by omega)
      have hi1 : x % ((na + nb : Nat) : Int) < ((na + nb : Nat) : Int) := Int.emod_lt_of_pos _ hnpos
      have hj0 : 0 ≤ y % 8 := by omega
      have hj1 : y % 8 < 8 := by omega
      have hround1 := round_any x ((na + nb : Nat) : Int) hnpos (by omega)
      have hround2 := round_any y 8 (by omega) (by omega)
      generalize x % ((na + nb : Nat) : Int) = ix at *
      generalize y % 8 = jy at *
      obtain ⟨ix, rfl⟩ := Int.eq_ofNat_of_zero_le hi0
      obtain ⟨jy, rfl⟩ := Int.eq_ofNat_of_zero_le hj0
      have hix : ix < na + nb := by omega
      have hixI : (ix : Int) < (na : Int) + (nb : Int) := by omega
      have hll : (la ++ lb).length = na + nb := by rw [List.length_append, HA.out.1, HB.out.1]
      have h8 : ∀ c ∈ la ++ lb, c < 256 := fun c hc => (List.mem_append.1 hc).elim (HLA.out c) (HLB.out c)
      have hd : (la ++ lb).getD ix 0 < 256 := h8 _ (by rw [List.getD_eq_getElem?_getD, List.getElem?_eq_getElem (by omega)]; exact List.getElem_mem _)
      have hco := (hat3.cell ix).trans (hcur ix hix)
      have hcf := hat3.frozen ix
      have HL := Lib.hid hll
      have H8 := Lib.hid h8
      have HAT := Lib.hid hat3
      have HCur := Lib.hid hcur
      have HR1 := Lib.hid hround1
      have HR2 := Lib.hid hround2
      have hgcX : gc < X.heap.size := hat3.lt
      have hne : ¬ g = gc := by omega
      have HTurn := Lib.hid (fun (d : Nat) (h1 : d < 256) (h2 : d ≠ (la ++ lb).getD ix 0) => crc_turn' (s := s) (l := la ++ lb) (i := ix) hp htop hs h8 (by omega) h1 h2)
      clear hll h8 hat3 hat hcur hround1 hround2 hgn
      go_wp2_with fail
      generalize (la ++ lb).getD ix 0 = d at *
      have hcase : jy = 0 ∨ jy = 1 ∨ jy = 2 ∨ jy = 3 ∨ jy = 4 ∨ jy = 5 ∨ jy = 6 ∨ jy = 7 := by omega
      rcases hcase with rfl | rfl | rfl | rfl | rfl | rfl | rfl | rfl
      · have hxx : bits .xor .u8 (d : Int) 1 = ((d ^^^ 1 : Nat) : Int) := xor_u8 d 1 hd (by omega)
        have hdx : d ^^^ 1 < 256 := Nat.xor_lt_two_pow (n := 8) (by omega) (by omega)
        have hdn : d ^^^ 1 ≠ d := xor_ne d 1 (by omega)
        refine region_sq2 (fun _ => False) (fun i => i = gc) [(0, true), (1, true), (2, true), (3, true), (7, true), (4, false), (5, true), (6, true), (8, false), (9, true), (10, true), (11, true)] [(12, false)] (by kernel_rfl) (by kernel_rfl) (fun _ _ d _ _ h => by cases d <;> exact h) ?_
        repeat (refine sq_yes rfl (by rfl) (fun w' hM => by ((try replace hM := hM.of_drew); obtain ⟨hR1, hR2, hR3⟩ := hM.rules; clear hM; go_simp; with_reducible rfl)) ?_; simp only [Act.put, List.setIfInBounds_toArray, List.set_cons_zero, List.set_cons_succ])
        refine sq_do_yes rfl (by rfl) (fun K hK => ?_)
        go_wp2_with fail
        refine (HR1.out _).mono ?_
        rintro e w' ⟨rfl, rfl⟩
        go_wp2_with fail
        refine ⟨Mod.refl _ _, ?_⟩
        repeat (refine sq_yes rfl (by rfl) (fun w' hM => by ((try replace hM := hM.of_drew); obtain ⟨hR1, hR2, hR3⟩ := hM.rules; clear hM; go_simp; with_reducible rfl)) ?_; simp only [Act.put, List.setIfInBounds_toArray, List.set_cons_zero, List.set_cons_succ])
        refine sq_do_yes rfl (by rfl) (fun K hK => ?_)
        go_wp2_with fail
        refine (HR2.out _).mono ?_
        rintro e w' ⟨rfl, rfl⟩
        go_wp2_with fail
        refine ⟨Mod.refl _ _, ?_⟩
        repeat (refine sq_yes rfl (by rfl) (fun w' hM => by ((try replace hM := hM.of_drew); obtain ⟨hR1, hR2, hR3⟩ := hM.rules; clear hM; go_simp; with_reducible rfl)) ?_; simp only [Act.put, List.setIfInBounds_toArray, List.set_cons_zero, List.set_cons_succ])
        refine sq_end ?_
        refine sq_do_yes rfl (by rfl) (fun K hK => ?_)
        go_wp2_with fail
        refine ⟨to_drew (((Mod.refl (fun i => i = gc) X).setCell ⟨gc, ix, none⟩ _ (fun _ => rfl)).drew), ?_⟩
        refine sq_end ?_
        rw [hxx]
        obtain ⟨Y, hY⟩ : ∃ Y, Y = (X.setCell ⟨gc, ix, none⟩ (.int .u8 ((d ^^^ 1 : Nat) : Int))).drew := ⟨_, rfl⟩
        rw [← hY]
        have hBY := bytes_set HL.out H8.out hix hdx HAT.out HCur.out
        have hYm : Mod (fun i => i = gc) X Y := by rw [hY]; exact ((Mod.refl (fun i => i = gc) X).setCell ⟨gc, ix, none⟩ _ (fun _ => rfl)).drew
        have hrow4 : row Y g = tabv p := (hYm.rules.2.1 g hgl3 hne).trans hrow3
        have hopen4 : open_ Y g = true := (hYm.rules.2.2 g hgl3 hne).trans hopen3
        have hBY' : Bytes Y (some ⟨gc, 0, none⟩) (na + nb) ((la ++ lb).set ix (d ^^^ 1)) := by rw [hY]; exact hBY
        have HBY := Lib.hid hBY'
        have HBW : Hid (Below W.heap.size W Y) := Lib.hid (by rw [hY]; exact (HBX.out.setCell (p := ⟨gc, ix, none⟩) hge _).drew)
        have hnn := HTurn.out _ hdx hdn
        rw [crc_append] at hnn
        have hb1 : (((crc p s ((la ++ lb).set ix (d ^^^ 1)) : Nat) : Int) == ((crc p (crc p s la) lb : Nat) : Int)) = false := by simp; omega
        have hb2 : (((crc p s ((la ++ lb).set ix (d ^^^ 1)) : Nat) : Int) != ((crc p (crc p s la) lb : Nat) : Int)) = true := by simp; omega
        clear hY hBY hBY' hYm hnn hrow3 hopen3
        go_wp2_with fail
        refine (of_any p hp s hs _ (na + nb) cc ((la ++ lb).set ix (d ^^^ 1)) _ HBY.out (by omega)).mono ?_
        rintro e w' ⟨rfl, rfl⟩
        go_wp2_with fail
        refine (awake_any _).mono ?_
        rintro e w' ⟨rfl, hbb⟩
        go_wp2_with fail
        go_ret
        exact ⟨rfl, step_below HB0.out (step_below HBW.out (step_below (by repeat first | exact Below.refl _ _ | refine Below.drew ?_ | refine Below.alloc ?_ (by simp <;> omega) _) hbb))⟩
      · have hxx : bits .xor .u8 (d : Int) 2 = ((d ^^^ 2 : Nat) : Int) := xor_u8 d 2 hd (by omega)
        have hdx : d ^^^ 2 < 256 := Nat.xor_lt_two_pow (n := 8) (by omega) (by omega)
        have hdn : d ^^^ 2 ≠ d := xor_ne d 2 (by omega)
        refine region_sq2 (fun _ => False) (fun i => i = gc) [(0, true), (1, true), (2, true), (3, true), (7, true), (4, false), (5, true), (6, true), (8, false), (9, true), (10, true), (11, true)] [(12, false)] (by kernel_rfl) (by kernel_rfl) (fun _ _ d _ _ h => by cases d <;> exact h) ?_
        repeat (refine sq_yes rfl (by rfl) (fun w' hM => by ((try replace hM := hM.of_drew); obtain ⟨hR1, hR2, hR3⟩ := hM.rules; clear hM; go_simp; with_reducible rfl)) ?_; simp only [Act.put, List.setIfInBounds_toArray, List.set_cons_zero, List.set_cons_succ])
        refine sq_do_yes rfl (by rfl) (fun K hK => ?_)
        go_wp2_with fail
        refine (HR1.out _).mono ?_
        rintro e w' ⟨rfl, rfl⟩
        go_wp2_with fail
        refine ⟨Mod.refl _ _, ?_⟩
        repeat (refine sq_yes rfl (by rfl) (fun w' hM => by ((try replace hM := hM.of_drew); obtain ⟨hR1, hR2, hR3⟩ := hM.rules; clear hM; go_simp; with_reducible rfl)) ?_; simp only [Act.put, List.setIfInBounds_toArray, List.set_cons_zero, List.set_cons_succ])
        refine sq_do_yes rfl (by rfl) (fun K hK => ?_)
        go_wp2_with fail
        refine (HR2.out _).mono ?_
        rintro e w' ⟨rfl, rfl⟩
        go_wp2_with fail
        refine ⟨Mod.refl _ _, ?_⟩
        repeat (refine sq_yes rfl (by rfl) (fun w' hM => by ((try replace hM := hM.of_drew); obtain ⟨hR1, hR2, hR3⟩ := hM.rules; clear hM; go_simp; with_reducible rfl)) ?_; simp only [Act.put, List.setIfInBounds_toArray, List.set_cons_zero, List.set_cons_succ])
        refine sq_end ?_
        refine sq_do_yes rfl (by rfl) (fun K hK => ?_)
        go_wp2_with fail
        refine ⟨to_drew (((Mod.refl (fun i => i = gc) X).setCell ⟨gc, ix, none⟩ _ (fun _ => rfl)).drew), ?_⟩
        refine sq_end ?_
        rw [hxx]
        obtain ⟨Y, hY⟩ : ∃ Y, Y = (X.setCell ⟨gc, ix, none⟩ (.int .u8 ((d ^^^ 2 : Nat) : Int))).drew := ⟨_, rfl⟩
        rw [← hY]
        have hBY := bytes_set HL.out H8.out hix hdx HAT.out HCur.out
        have hYm : Mod (fun i => i = gc) X Y := by rw [hY]; exact ((Mod.refl (fun i => i = gc) X).setCell ⟨gc, ix, none⟩ _ (fun _ => rfl)).drew
        have hrow4 : row Y g = tabv p := (hYm.rules.2.1 g hgl3 hne).trans hrow3
        have hopen4 : open_ Y g = true := (hYm.rules.2.2 g hgl3 hne).trans hopen3
        have hBY' : Bytes Y (some ⟨gc, 0, none⟩) (na + nb) ((la ++ lb).set ix (d ^^^ 2)) := by rw [hY]; exact hBY
        have HBY := Lib.hid hBY'
        have HBW : Hid (Below W.heap.size W Y) := Lib.hid (by rw [hY]; exact (HBX.out.setCell (p := ⟨gc, ix, none⟩) hge _).drew)
        have hnn := HTurn.out _ hdx hdn
        rw [crc_append] at hnn
        have hb1 : (((crc p s ((la ++ lb).set ix (d ^^^ 2)) : Nat) : Int) == ((crc p (crc p s la) lb : Nat) : Int)) = false := by simp; omega
        have hb2 : (((crc p s ((la ++ lb).set ix (d ^^^ 2)) : Nat) : Int) != ((crc p (crc p s la) lb : Nat) : Int)) = true := by simp; omega
        clear hY hBY hBY' hYm hnn hrow3 hopen3
        go_wp2_with fail
        refine (of_any p hp s hs _ (na + nb) cc ((la ++ lb).set ix (d ^^^ 2)) _ HBY.out (by omega)).mono ?_
        rintro e w' ⟨rfl, rfl⟩
        go_wp2_with fail
        refine (awake_any _).mono ?_
        rintro e w' ⟨rfl, hbb⟩
        go_wp2_with fail
        go_ret
        exact ⟨rfl, step_below HB0.out (step_below HBW.out (step_below (by repeat first | exact Below.refl _ _ | refine Below.drew ?_ | refine Below.alloc ?_ (by simp <;> omega) _) hbb))⟩
      · have hxx : bits .xor .u8 (d : Int) 4 = ((d ^^^ 4 : Nat) : Int) := xor_u8 d 4 hd (by omega)
        have hdx : d ^^^ 4 < 256 := Nat.xor_lt_two_pow (n := 8) (by omega) (by omega)
        have hdn : d ^^^ 4 ≠ d := xor_ne d 4 (by omega)
        refine region_sq2 (fun _ => False) (fun i => i = gc) [(0, true), (1, true), (2, true), (3, true), (7, true), (4, false), (5, true), (6, true), (8, false), (9, true), (10, true), (11, true)] [(12, false)] (by kernel_rfl) (by kernel_rfl) (fun _ _ d _ _ h => by cases d <;> exact h) ?_
        repeat (refine sq_yes rfl (by rfl) (fun w' hM => by ((try replace hM := hM.of_drew); obtain ⟨hR1, hR2, hR3⟩ := hM.rules; clear hM; go_simp; with_reducible rfl)) ?_; simp only [Act.put, List.setIfInBounds_toArray, List.set_cons_zero, List.set_cons_succ])
        refine sq_do_yes rfl (by rfl) (fun K hK => ?_)
        go_wp2_with fail
        refine (HR1.out _).mono ?_
        rintro e w' ⟨rfl, rfl⟩
        go_wp2_with fail
        refine ⟨Mod.refl _ _, ?_⟩
        repeat (refine sq_yes rfl (by rfl) (fun w' hM => by ((try replace hM := hM.of_drew); obtain ⟨hR1, hR2, hR3⟩ := hM.rules; clear hM; go_simp; with_reducible rfl)) ?_; simp only [Act.put, List.setIfInBounds_toArray, List.set_cons_zero, List.set_cons_succ])
        refine sq_do_yes rfl (by rfl) (fun K hK => ?_)
        go_wp2_with fail
        refine (HR2.out _).mono ?_
        rintro e w' ⟨rfl, rfl⟩
        go_wp2_with fail
        refine ⟨Mod.refl _ _, ?_⟩
        repeat (refine sq_yes rfl (by rfl) (fun w' hM => by ((try replace hM := hM.of_drew); obtain ⟨hR1, hR2, hR3⟩ := hM.rules; clear hM; go_simp; with_reducible rfl)) ?_; simp only [Act.put, List.setIfInBounds_toArray, List.set_cons_zero, List.set_cons_succ])
        refine sq_end ?_
        refine sq_do_yes rfl (by rfl) (fun K hK => ?_)
        go_wp2_with fail
        refine ⟨to_drew (((Mod.refl (fun i => i = gc) X).setCell ⟨gc, ix, none⟩ _ (fun _ => rfl)).drew), ?_⟩
        refine sq_end ?_
        rw [hxx]
        obtain ⟨Y, hY⟩ : ∃ Y, Y = (X.setCell ⟨gc, ix, none⟩ (.int .u8 ((d ^^^ 4 : Nat) : Int))).drew := ⟨_, rfl⟩
        rw [← hY]
        have hBY := bytes_set HL.out H8.out hix hdx HAT.out HCur.out
        have hYm : Mod (fun i => i = gc) X Y := by rw [hY]; exact ((Mod.refl (fun i => i = gc) X).setCell ⟨gc, ix, none⟩ _ (fun _ => rfl)).drew
        have hrow4 : row Y g = tabv p := (hYm.rules.2.1 g hgl3 hne).trans hrow3
        have hopen4 : open_ Y g = true := (hYm.rules.2.2 g hgl3 hne).trans hopen3
        have hBY' : Bytes Y (some ⟨gc, 0, none⟩) (na + nb) ((la ++ lb).set ix (d ^^^ 4)) := by rw [hY]; exact hBY
        have HBY := Lib.hid hBY'
        have HBW : Hid (Below W.heap.size W Y) := Lib.hid (by rw [hY]; exact (HBX.out.setCell (p := ⟨gc, ix, none⟩) hge _).drew)
        have hnn := HTurn.out _ hdx hdn
        rw [crc_append] at hnn
        have hb1 : (((crc p s ((la ++ lb).set ix (d ^^^ 4)) : Nat) : Int) == ((crc p (crc p s la) lb : Nat) : Int)) = false := by simp; omega
        have hb2 : (((crc p s ((la ++ lb).set ix (d ^^^ 4)) : Nat) : Int) != ((crc p (crc p s la) lb : Nat) : Int)) = true := by simp; omega
        clear hY hBY hBY' hYm hnn hrow3 hopen3
        go_wp2_with fail
        refine (of_any p hp s hs _ (na + nb) cc ((la ++ lb).set ix (d ^^^ 4)) _ HBY.out (by omega)).mono ?_
        rintro e w' ⟨rfl, rfl⟩
        go_wp2_with fail
        refine (awake_any _).mono ?_
        rintro e w' ⟨rfl, hbb⟩
        go_wp2_with fail
        go_ret
        exact ⟨rfl, step_below HB0.out (step_below HBW.out (step_below (by repeat first | exact Below.refl _ _ | refine Below.drew ?_ | refine Below.alloc ?_ (by simp <;> omega) _) hbb))⟩
      · have hxx : bits .xor .u8 (d : Int) 8 = ((d ^^^ 8 : Nat) : Int) := xor_u8 d 8 hd (by omega)
        have hdx : d ^^^ 8 < 256 := Nat.xor_lt_two_pow (n := 8) (by omega) (by omega)
        have hdn : d ^^^ 8 ≠ d := xor_ne d 8 (by omega)
        refine region_sq2 (fun _ => False) (fun i => i = gc) [(0, true), (1, true), (2, true), (3, true), (7, true), (4, false), (5, true), (6, true), (8, false), (9, true), (10, true), (11, true)] [(12, false)] (by kernel_rfl) (by kernel_rfl) (fun _ _ d _ _ h => by cases d <;> exact h) ?_
        repeat (refine sq_yes rfl (by rfl) (fun w' hM => by ((try replace hM := hM.of_drew); obtain ⟨hR1, hR2, hR3⟩ := hM.rules; clear hM; go_simp; with_reducible rfl)) ?_; simp only [Act.put, List.setIfInBounds_toArray, List.set_cons_zero, List.set_cons_succ])
        refine sq_do_yes rfl (by rfl) (fun K hK => ?_)
        go_wp2_with fail
        refine (HR1.out _).mono ?_
        rintro e w' ⟨rfl, rfl⟩
        go_wp2_with fail
        refine ⟨Mod.refl _ _, ?_⟩
        repeat (refine sq_yes rfl (by rfl) (fun w' hM => by ((try replace hM := hM.of_drew); obtain ⟨hR1, hR2, hR3⟩ := hM.rules; clear hM; go_simp; with_reducible rfl)) ?_; simp only [Act.put, List.setIfInBounds_toArray, List.set_cons_zero, List.set_cons_succ])
        refine sq_do_yes rfl (by rfl) (fun K hK => ?_)
        go_wp2_with fail
        refine (HR2.out _).mono ?_
        rintro e w' ⟨rfl, rfl⟩
        go_wp2_with fail
        refine ⟨Mod.refl _ _, ?_⟩
        repeat (refine sq_yes rfl (by rfl) (fun w' hM => by ((try replace hM := hM.of_drew); obtain ⟨hR1, hR2, hR3⟩ := hM.rules; clear hM; go_simp; with_reducible rfl)) ?_; simp only [Act.put, List.setIfInBounds_toArray, List.set_cons_zero, List.set_cons_succ])
        refine sq_end ?_
        refine sq_do_yes rfl (by rfl) (fun K hK => ?_)
        go_wp2_with fail
        refine ⟨to_drew (((Mod.refl (fun i => i = gc) X).setCell ⟨gc, ix, none⟩ _ (fun _ => rfl)).drew), ?_⟩
        refine sq_end ?_
        rw [hxx]
        obtain ⟨Y, hY⟩ : ∃ Y, Y = (X.setCell ⟨gc, ix, none⟩ (.int .u8 ((d ^^^ 8 : Nat) : Int))).drew := ⟨_, rfl⟩
        rw [← hY]
        have hBY := bytes_set HL.out H8.out hix hdx HAT.out HCur.out
        have hYm : Mod (fun i => i = gc) X Y := by rw [hY]; exact ((Mod.refl (fun i => i = gc) X).setCell ⟨gc, ix, none⟩ _ (fun _ => rfl)).drew
        have hrow4 : row Y g = tabv p := (hYm.rules.2.1 g hgl3 hne).trans hrow3
        have hopen4 : open_ Y g = true := (hYm.rules.2.2 g hgl3 hne).trans hopen3
        have hBY' : Bytes Y (some ⟨gc, 0, none⟩) (na + nb) ((la ++ lb).set ix (d ^^^ 8)) := by rw [hY]; exact hBY
        have HBY := Lib.hid hBY'
        have HBW : Hid (Below W.heap.size W Y) := Lib.hid (by rw [hY]; exact (HBX.out.setCell (p := ⟨gc, ix, none⟩) hge _).drew)
        have hnn := HTurn.out _ hdx hdn
        rw [crc_append] at hnn
        have hb1 : (((crc p s ((la ++ lb).set ix (d ^^^ 8)) : Nat) : Int) == ((crc p (crc p s la) lb : Nat) : Int)) = false := by simp; omega
        have hb2 : (((crc p s ((la ++ lb).set ix (d ^^^ 8)) : Nat) : Int) != ((crc p (crc p s la) lb : Nat) : Int)) = true := by simp; omega
        clear hY hBY hBY' hYm hnn hrow3 hopen3
        go_wp2_with fail
        refine (of_any p hp s hs _ (na + nb) cc ((la ++ lb).set ix (d ^^^ 8)) _ HBY.out (by omega)).mono ?_
        rintro e w' ⟨rfl, rfl⟩
        go_wp2_with fail
        refine (awake_any _).mono ?_
        rintro e w' ⟨rfl, hbb⟩
        go_wp2_with fail
        go_ret
        exact ⟨rfl, step_below HB0.out (step_below HBW.out (step_below (by repeat first | exact Below.refl _ _ | refine Below.drew ?_ | refine Below.alloc ?_ (by simp <;> omega) _) hbb))⟩
      · have hxx : bits .xor .u8 (d : Int) 16 = ((d ^^^ 16 : Nat) : Int) := xor_u8 d 16 hd (by omega)
        have hdx : d ^^^ 16 < 256 := Nat.xor_lt_two_pow (n := 8) (by omega) (by omega)
        have hdn : d ^^^ 16 ≠ d := xor_ne d 16 (by omega)
        refine region_sq2 (fun _ => False) (fun i => i = gc) [(0, true), (1, true), (2, true), (3, true), (7, true), (4, false), (5, true), (6, true), (8, false), (9, true), (10, true), (11, true)] [(12, false)] (by kernel_rfl) (by kernel_rfl) (fun _ _ d _ _ h => by cases d <;> exact h) ?_
        repeat (refine sq_yes rfl (by rfl) (fun w' hM => by ((try replace hM := hM.of_drew); obtain ⟨hR1, hR2, hR3⟩ := hM.rules; clear hM; go_simp; with_reducible rfl)) ?_; simp only [Act.put, List.setIfInBounds_toArray, List.set_cons_zero, List.set_cons_succ])
        refine sq_do_yes rfl (by rfl) (fun K hK => ?_)
        go_wp2_with fail
        refine (HR1.out _).mono ?_
        rintro e w' ⟨rfl, rfl⟩
        go_wp2_with fail
        refine ⟨Mod.refl _ _, ?_⟩
        repeat (refine sq_yes rfl (by rfl) (fun w' hM => by ((try replace hM := hM.of_drew); obtain ⟨hR1, hR2, hR3⟩ := hM.rules; clear hM; go_simp; with_reducible rfl)) ?_; simp only [Act.put, List.setIfInBounds_toArray, List.set_cons_zero, List.set_cons_succ])
        refine sq_do_yes rfl (by rfl) (fun K hK => ?_)
        go_wp2_with fail
        refine (HR2.out _).mono ?_
        rintro e w' ⟨rfl, rfl⟩
        go_wp2_with fail
        refine ⟨Mod.refl _ _, ?_⟩
        repeat (refine sq_yes rfl (by rfl) (fun w' hM => by ((try replace hM := hM.of_drew); obtain ⟨hR1, hR2, hR3⟩ := hM.rules; clear hM; go_simp; with_reducible rfl)) ?_; simp only [Act.put, List.setIfInBounds_toArray, List.set_cons_zero, List.set_cons_succ])
        refine sq_end ?_
        refine sq_do_yes rfl (by rfl) (fun K hK => ?_)
        go_wp2_with fail
        refine ⟨to_drew (((Mod.refl (fun i => i = gc) X).setCell ⟨gc, ix, none⟩ _ (fun _ => rfl)).drew), ?_⟩
        refine sq_end ?_
        rw [hxx]
        obtain ⟨Y, hY⟩ : ∃ Y, Y = (X.setCell ⟨gc, ix, none⟩ (.int .u8 ((d ^^^ 16 : Nat) : Int))).drew := ⟨_, rfl⟩
        rw [← hY]
        have hBY := bytes_set HL.out H8.out hix hdx HAT.out HCur.out
        have hYm : Mod (fun i => i = gc) X Y := by rw [hY]; exact ((Mod.refl (fun i => i = gc) X).setCell ⟨gc, ix, none⟩ _ (fun _ => rfl)).drew
        have hrow4 : row Y g = tabv p := (hYm.rules.2.1 g hgl3 hne).trans hrow3
        have hopen4 : open_ Y g = true := (hYm.rules.2.2 g hgl3 hne).trans hopen3
        have hBY' : Bytes Y (some ⟨gc, 0, none⟩) (na + nb) ((la ++ lb).set ix (d ^^^ 16)) := by rw [hY]; exact hBY
        have HBY := Lib.hid hBY'
        have HBW : Hid (Below W.heap.size W Y) := Lib.hid (by rw [hY]; exact (HBX.out.setCell (p := ⟨gc, ix, none⟩) hge _).drew)
        have hnn := HTurn.out _ hdx hdn
        rw [crc_append] at hnn
        have hb1 : (((crc p s ((la ++ lb).set ix (d ^^^ 16)) : Nat) : Int) == ((crc p (crc p s la) lb : Nat) : Int)) = false := by simp; omega
        have hb2 : (((crc p s ((la ++ lb).set ix (d ^^^ 16)) : Nat) : Int) != ((crc p (crc p s la) lb : Nat) : Int)) = true := by simp; omega
        clear hY hBY hBY' hYm hnn hrow3 hopen3
        go_wp2_with fail
        refine (of_any p hp s hs _ (na + nb) cc ((la ++ lb).set ix (d ^^^ 16)) _ HBY.out (by omega)).mono ?_
        rintro e w' ⟨rfl, rfl⟩
        go_wp2_with fail
        refine (awake_any _).mono ?_
        rintro e w' ⟨rfl, hbb⟩
        go_wp2_with fail
        go_ret
        exact ⟨rfl, step_below HB0.out (step_below HBW.out (step_below (by repeat first | exact Below.refl _ _ | refine Below.drew ?_ | refine Below.alloc ?_ (by simp <;> omega) _) hbb))⟩
      · have hxx : bits .xor .u8 (d : Int) 32 = ((d ^^^ 32 : Nat) : Int) := xor_u8 d 32 hd (by omega)
        have hdx : d ^^^ 32 < 256 := Nat.xor_lt_two_pow (n := 8) (by omega) (by omega)
        have hdn : d ^^^ 32 ≠ d := xor_ne d 32 (by omega)
        refine region_sq2 (fun _ => False) (fun i => i = gc) [(0, true), (1, true), (2, true), (3, true), (7, true), (4, false), (5, true), (6, true), (8, false), (9, true), (10, true), (11, true)] [(12, false)] (by kernel_rfl) (by kernel_rfl) (fun _ _ d _ _ h => by cases d <;> exact h) ?_
        repeat (refine sq_yes rfl (by rfl) (fun w' hM => by ((try replace hM := hM.of_drew); obtain ⟨hR1, hR2, hR3⟩ := hM.rules; clear hM; go_simp; with_reducible rfl)) ?_; simp only [Act.put, List.setIfInBounds_toArray, List.set_cons_zero, List.set_cons_succ])
        refine sq_do_yes rfl (by rfl) (fun K hK => ?_)
        go_wp2_with fail
        refine (HR1.out _).mono ?_
        rintro e w' ⟨rfl, rfl⟩
        go_wp2_with fail
        refine ⟨Mod.refl _ _, ?_⟩
        repeat (refine sq_yes rfl (by rfl) (fun w' hM => by ((try replace hM := hM.of_drew); obtain ⟨hR1, hR2, hR3⟩ := hM.rules; clear hM; go_simp; with_reducible rfl)) ?_; simp only [Act.put, List.setIfInBounds_toArray, List.set_cons_zero, List.set_cons_succ])
        refine sq_do_yes rfl (by rfl) (fun K hK => ?_)
        go_wp2_with fail
        refine (HR2.out _).mono ?_
        rintro e w' ⟨rfl, rfl⟩
        go_wp2_with fail
        refine ⟨Mod.refl _ _, ?_⟩
        repeat (refine sq_yes rfl (by rfl) (fun w' hM => by ((try replace hM := hM.of_drew); obtain ⟨hR1, hR2, hR3⟩ := hM.rules; clear hM; go_simp; with_reducible rfl)) ?_; simp only [Act.put, List.setIfInBounds_toArray, List.set_cons_zero, List.set_cons_succ])
        refine sq_end ?_
        refine sq_do_yes rfl (by rfl) (fun K hK => ?_)
        go_wp2_with fail
        refine ⟨to_drew (((Mod.refl (fun i => i = gc) X).setCell ⟨gc, ix, none⟩ _ (fun _ => rfl)).drew), ?_⟩
        refine sq_end ?_
        rw [hxx]
        obtain ⟨Y, hY⟩ : ∃ Y, Y = (X.setCell ⟨gc, ix, none⟩ (.int .u8 ((d ^^^ 32 : Nat) : Int))).drew := ⟨_, rfl⟩
        rw [← hY]
        have hBY := bytes_set HL.out H8.out hix hdx HAT.out HCur.out
        have hYm : Mod (fun i => i = gc) X Y := by rw [hY]; exact ((Mod.refl (fun i => i = gc) X).setCell ⟨gc, ix, none⟩ _ (fun _ => rfl)).drew
        have hrow4 : row Y g = tabv p := (hYm.rules.2.1 g hgl3 hne).trans hrow3
        have hopen4 : open_ Y g = true := (hYm.rules.2.2 g hgl3 hne).trans hopen3
        have hBY' : Bytes Y (some ⟨gc, 0, none⟩) (na + nb) ((la ++ lb).set ix (d ^^^ 32)) := by rw [hY]; exact hBY
        have HBY := Lib.hid hBY'
        have HBW : Hid (Below W.heap.size W Y) := Lib.hid (by rw [hY]; exact (HBX.out.setCell (p := ⟨gc, ix, none⟩) hge _).drew)
        have hnn := HTurn.out _ hdx hdn
        rw [crc_append] at hnn
        have hb1 : (((crc p s ((la ++ lb).set ix (d ^^^ 32)) : Nat) : Int) == ((crc p (crc p s la) lb : Nat) : Int)) = false := by simp; omega
        have hb2 : (((crc p s ((la ++ lb).set ix (d ^^^ 32)) : Nat) : Int) != ((crc p (crc p s la) lb : Nat) : Int)) = true := by simp; omega
        clear hY hBY hBY' hYm hnn hrow3 hopen3
        go_wp2_with fail
        refine (of_any p hp s hs _ (na + nb) cc ((la ++ lb).set ix (d ^^^ 32)) _ HBY.out (by omega)).mono ?_
        rintro e w' ⟨rfl, rfl⟩
        go_wp2_with fail
        refine (awake_any _).mono ?_
        rintro e w' ⟨rfl, hbb⟩
        go_wp2_with fail
        go_ret
        exact ⟨rfl, step_below HB0.out (step_below HBW.out (step_below (by repeat first | exact Below.refl _ _ | refine Below.drew ?_ | refine Below.alloc ?_ (by simp <;> omega) _) hbb))⟩
      · have hxx : bits .xor .u8 (d : Int) 64 = ((d ^^^ 64 : Nat) : Int) := xor_u8 d 64 hd (by omega)
        have hdx : d ^^^ 64 < 256 := Nat.xor_lt_two_pow (n := 8) (by omega) (by omega)
        have hdn : d ^^^ 64 ≠ d := xor_ne d 64 (by omega)
        refine region_sq2 (fun _ => False) (fun i => i = gc) [(0, true), (1, true), (2, true), (3, true), (7, true), (4, false), (5, true), (6, true), (8, false), (9, true), (10, true), (11, true)] [(12, false)] (by kernel_rfl) (by kernel_rfl) (fun _ _ d _ _ h => by cases d <;> exact h) ?_
        repeat (refine sq_yes rfl (by rfl) (fun w' hM => by ((try replace hM := hM.of_drew); obtain ⟨hR1, hR2, hR3⟩ := hM.rules; clear hM; go_simp; with_reducible rfl)) ?_; simp only [Act.put, List.setIfInBounds_toArray, List.set_cons_zero, List.set_cons_succ])
        refine sq_do_yes rfl (by rfl) (fun K hK => ?_)
        go_wp2_with fail
        refine (HR1.out _).mono ?_
        rintro e w' ⟨rfl, rfl⟩
        go_wp2_with fail
        refine ⟨Mod.refl _ _, ?_⟩
        repeat (refine sq_yes rfl (by rfl) (fun w' hM => by ((try replace hM := hM.of_drew); obtain ⟨hR1, hR2, hR3⟩ := hM.rules; clear hM; go_simp; with_reducible rfl)) ?_; simp only [Act.put, List.setIfInBounds_toArray, List.set_cons_zero, List.set_cons_succ])
        refine sq_do_yes rfl (by rfl) (fun K hK => ?_)
        go_wp2_with fail
        refine (HR2.out _).mono ?_
        rintro e w' ⟨rfl, rfl⟩
        go_wp2_with fail
        refine ⟨Mod.refl _ _, ?_⟩
        repeat (refine sq_yes rfl (by rfl) (fun w' hM => by ((try replace hM := hM.of_drew); obtain ⟨hR1, hR2, hR3⟩ := hM.rules; clear hM; go_simp; with_reducible rfl)) ?_; simp only [Act.put, List.setIfInBounds_toArray, List.set_cons_zero, List.set_cons_succ])
        refine sq_end ?_
        refine sq_do_yes rfl (by rfl) (fun K hK => ?_)
        go_wp2_with fail
        refine ⟨to_drew (((Mod.refl (fun i => i = gc) X).setCell ⟨gc, ix, none⟩ _ (fun _ => rfl)).drew), ?_⟩
        refine sq_end ?_
        rw [hxx]
        obtain ⟨Y, hY⟩ : ∃ Y, Y = (X.setCell ⟨gc, ix, none⟩ (.int .u8 ((d ^^^ 64 : Nat) : Int))).drew := ⟨_, rfl⟩
        rw [← hY]
        have hBY := bytes_set HL.out H8.out hix hdx HAT.out HCur.out
        have hYm : Mod (fun i => i = gc) X Y := by rw [hY]; exact ((Mod.refl (fun i => i = gc) X).setCell ⟨gc, ix, none⟩ _ (fun _ => rfl)).drew
        have hrow4 : row Y g = tabv p := (hYm.rules.2.1 g hgl3 hne).trans hrow3
        have hopen4 : open_ Y g = true := (hYm.rules.2.2 g hgl3 hne).trans hopen3
        have hBY' : Bytes Y (some ⟨gc, 0, none⟩) (na + nb) ((la ++ lb).set ix (d ^^^ 64)) := by rw [hY]; exact hBY
        have HBY := Lib.hid hBY'
        have HBW : Hid (Below W.heap.size W Y) := Lib.hid (by rw [hY]; exact (HBX.out.setCell (p := ⟨gc, ix, none⟩) hge _).drew)
        have hnn := HTurn.out _ hdx hdn
        rw [crc_append] at hnn
        have hb1 : (((crc p s ((la ++ lb).set ix (d ^^^ 64)) : Nat) : Int) == ((crc p (crc p s la) lb : Nat) : Int)) = false := by simp; omega
        have hb2 : (((crc p s ((la ++ lb).set ix (d ^^^ 64)) : Nat) : Int) != ((crc p (crc p s la) lb : Nat) : Int)) = true := by simp; omega
        clear hY hBY hBY' hYm hnn hrow3 hopen3
        go_wp2_with fail
        refine (of_any p hp s hs _ (na + nb) cc ((la ++ lb).set ix (d ^^^ 64)) _ HBY.out (by omega)).mono ?_
        rintro e w' ⟨rfl, rfl⟩
        go_wp2_with fail
        refine (awake_any _).mono ?_
        rintro e w' ⟨rfl, hbb⟩
        go_wp2_with fail
        go_ret
        exact ⟨rfl, step_below HB0.out (step_below HBW.out (step_below (by repeat first | exact Below.refl _ _ | refine Below.drew ?_ | refine Below.alloc ?_ (by simp <;> omega) _) hbb))⟩
      · have hxx : bits .xor .u8 (d : Int) 128 = ((d ^^^ 128 : Nat) : Int) := xor_u8 d 128 hd (by omega)
        have hdx : d ^^^ 128 < 256 := Nat.xor_lt_two_pow (n := 8) (by omega) (by omega)
        have hdn : d ^^^ 128 ≠ d := xor_ne d 128 (by omega)
        refine region_sq2 (fun _ => False) (fun i => i = gc) [(0, true), (1, true), (2, true), (3, true), (7, true), (4, false), (5, true), (6, true), (8, false), (9, true), (10, true), (11, true)] [(12, false)] (by kernel_rfl) (by kernel_rfl) (fun _ _ d _ _ h => by cases d <;> exact h) ?_
        repeat (refine sq_yes rfl (by rfl) (fun w' hM => by ((try replace hM := hM.of_drew); obtain ⟨hR1, hR2, hR3⟩ := hM.rules; clear hM; go_simp; with_reducible rfl)) ?_; simp only [Act.put, List.setIfInBounds_toArray, List.set_cons_zero, List.set_cons_succ])
        refine sq_do_yes rfl (by rfl) (fun K hK => ?_)
        go_wp2_with fail
        refine (HR1.out _).mono ?_
        rintro e w' ⟨rfl, rfl⟩
        go_wp2_with fail
        refine ⟨Mod.refl _ _, ?_⟩
        repeat (refine sq_yes rfl (by rfl) (fun w' hM => by ((try replace hM := hM.of_drew); obtain ⟨hR1, hR2, hR3⟩ := hM.rules; clear hM; go_simp; with_reducible rfl)) ?_; simp only [Act.put, List.setIfInBounds_toArray, List.set_cons_zero, List.set_cons_succ])
        refine sq_do_yes rfl (by rfl) (fun K hK => ?_)
        go_wp2_with fail
        refine (HR2.out _).mono ?_
        rintro e w' ⟨rfl, rfl⟩
        go_wp2_with fail
        refine ⟨Mod.refl _ _, ?_⟩
        repeat (refine sq_yes rfl (by rfl) (fun w' hM => by ((try replace hM := hM.of_drew); obtain ⟨hR1, hR2, hR3⟩ := hM.rules; clear hM; go_simp; with_reducible rfl)) ?_; simp only [Act.put, List.setIfInBounds_toArray, List.set_cons_zero, List.set_cons_succ])
        refine sq_end ?_
        refine sq_do_yes rfl (by rfl) (fun K hK => ?_)
        go_wp2_with fail
        refine ⟨to_drew (((Mod.refl (fun i => i = gc) X).setCell ⟨gc, ix, none⟩ _ (fun _ => rfl)).drew), ?_⟩
        refine sq_end ?_
        rw [hxx]
        obtain ⟨Y, hY⟩ : ∃ Y, Y = (X.setCell ⟨gc, ix, none⟩ (.int .u8 ((d ^^^ 128 : Nat) : Int))).drew := ⟨_, rfl⟩
        rw [← hY]
        have hBY := bytes_set HL.out H8.out hix hdx HAT.out HCur.out
        have hYm : Mod (fun i => i = gc) X Y := by rw [hY]; exact ((Mod.refl (fun i => i = gc) X).setCell ⟨gc, ix, none⟩ _ (fun _ => rfl)).drew
        have hrow4 : row Y g = tabv p := (hYm.rules.2.1 g hgl3 hne).trans hrow3
        have hopen4 : open_ Y g = true := (hYm.rules.2.2 g hgl3 hne).trans hopen3
        have hBY' : Bytes Y (some ⟨gc, 0, none⟩) (na + nb) ((la ++ lb).set ix (d ^^^ 128)) := by rw [hY]; exact hBY
        have HBY := Lib.hid hBY'
        have HBW : Hid (Below W.heap.size W Y) := Lib.hid (by rw [hY]; exact (HBX.out.setCell (p := ⟨gc, ix, none⟩) hge _).drew)
        have hnn := HTurn.out _ hdx hdn
        rw [crc_append] at hnn
        have hb1 : (((crc p s ((la ++ lb).set ix (d ^^^ 128)) : Nat) : Int) == ((crc p (crc p s la) lb : Nat) : Int)) = false := by simp; omega
        have hb2 : (((crc p s ((la ++ lb).set ix (d ^^^ 128)) : Nat) : Int) != ((crc p (crc p s la) lb : Nat) : Int)) = true := by simp; omega
        clear hY hBY hBY' hYm hnn hrow3 hopen3
        go_wp2_with fail
        refine (of_any p hp s hs _ (na + nb) cc ((la ++ lb).set ix (d ^^^ 128)) _ HBY.out (by omega)).mono ?_
        rintro e w' ⟨rfl, rfl⟩
        go_wp2_with fail
        refine (awake_any _).mono ?_
        rintro e w' ⟨rfl, hbb⟩
        go_wp2_with fail
        go_ret
        exact ⟨rfl, step_below HB0.out (step_below HBW.out (step_below (by repeat first | exact Below.refl _ _ | refine Below.drew ?_ | refine Below.alloc ?_ (by simp <;> omega) _) hbb))⟩
  · have hg' : 300 < na ∨ (na ≤ 300 ∧ 300 < nb) := by omega
    clear hg
    rcases hg' with g1 | ⟨g1, g2⟩ <;>
    · go_enter Try.func4, Try.ntmps4
      go_wp2_with fail
      refine (known_any _).mono ?_
      rintro e w1 ⟨rfl, rfl⟩
      go_wp2_with fail
      refine (awake_any _).mono ?_
      rintro e w1 ⟨rfl, hb⟩
      go_wp2_with fail
      go_ret
      exact ⟨rfl, step_below (by repeat first | exact Below.refl _ _ | refine Below.alloc ?_ (by simp <;> omega) _) hb⟩
end Go.Proofs.Ytadnfpgcfjinoaa
