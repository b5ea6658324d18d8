import Derived.Test.YtadnfpgcfjinoaaW4
namespace Go.Proofs.Ytadnfpgcfjinoaa
open Go.RowKit

theorem to_drew {M : Nat → Prop} {a b : World} (h : Mod M a b) : Mod M a.drew b := ⟨h.os, h.tape, h.output, h.size, h.block⟩
/-- The cells of the exclusive or of two rows, those below k; the others are nought. -/
def xk (a b : List Nat) (n k : Nat) : Array Value := ((List.range n).map fun i => .int .u8 ((if i < k then a.getD i 0 ^^^ b.getD i 0 else 0 : Nat) : Int)).toArray
theorem xk_size (a b : List Nat) (n k : Nat) : (xk a b n k).size = n := by simp [xk]
theorem xk_get (a b : List Nat) (n k i : Nat) (h : i < n) : (xk a b n k)[i]? = some (.int .u8 ((if i < k then a.getD i 0 ^^^ b.getD i 0 else 0 : Nat) : Int)) := by
  simp [xk, h]
theorem xk_none (a b : List Nat) (n k i : Nat) (h : ¬ i < n) : (xk a b n k)[i]? = none := by
  simp [xk, h]
theorem xk_zero (a b : List Nat) (n : Nat) : madeCells #[.int .u8 0] n = xk a b n 0 := by
  apply Array.ext
  · rw [size_madeCells, xk_size]
  · intro i h1 h2
    simp [madeCells, xk, Nat.mod_one]
theorem xk_set (a b : List Nat) (n k : Nat) (hk : k < n) : (xk a b n k).setIfInBounds k (.int .u8 ((a.getD k 0 ^^^ b.getD k 0 : Nat) : Int)) = xk a b n (k + 1) := by
  apply Array.ext_getElem?
  intro i
  rw [Array.getElem?_setIfInBounds, xk_size]
  by_cases hi : i < n
  · rw [xk_get _ _ _ _ _ hi, xk_get _ _ _ _ _ hi]
    by_cases h : k = i
    · subst h; simp [hk]
    · rw [if_neg h]
      by_cases h3 : i < k
      · rw [if_pos h3, if_pos (by omega)]
      · rw [if_neg h3, if_neg (by omega)]
  · rw [xk_none _ _ _ _ _ hi, xk_none _ _ _ _ _ hi, if_neg (by omega)]
theorem xors_getD (a b : List Nat) (i : Nat) (ha : i < a.length) (hb : i < b.length) : (xors a b).getD i 0 = a.getD i 0 ^^^ b.getD i 0 := by
  unfold xors
  rw [List.getD_eq_getElem?_getD, List.getD_eq_getElem?_getD, List.getD_eq_getElem?_getD, List.getElem?_zipWith, List.getElem?_eq_getElem ha, List.getElem?_eq_getElem hb]; rfl
theorem xors_length (a b : List Nat) : (xors a b).length = min a.length b.length := by simp [xors, List.length_zipWith]
theorem xors_lt {a b : List Nat} (ha : ∀ c ∈ a, c < 256) (hb : ∀ c ∈ b, c < 256) : ∀ c ∈ xors a b, c < 256 := by
  intro c hc
  unfold xors at hc
  obtain ⟨i, h, rfl⟩ := List.getElem_of_mem hc
  rw [List.getElem_zipWith]
  exact Nat.xor_lt_two_pow (n := 8) (ha _ (List.getElem_mem _)) (hb _ (List.getElem_mem _))
theorem lt_of_heap {w : World} {g : Nat} {o : Obj} (h : w.heap[g]? = some o) : g < w.heap.size := by
  rcases Nat.lt_or_ge g w.heap.size with h1 | h1
  · exact h1
  · rw [Array.getElem?_eq_none h1] at h; cases h
/-- A block that holds bytes, as a slice over it. -/
theorem bytes_row {w : World} {g n : Nat} {C : Array Value} {t : TypeId} {f : Nat × Nat} {l : List Nat} (hg : w.heap[g]? = some (.cells C t f)) (hl : l.length = n) (h8 : ∀ c ∈ l, c < 256)
    (hc : ∀ i, i < n → C[i]? = some (.int .u8 (l.getD i 0 : Nat))) : Bytes w (some ⟨g, 0, none⟩) n l :=
  ⟨hl, h8, fun _ => ⟨g, 0, rfl, lt_of_heap hg, fun i hi => by rw [Nat.zero_add, cell_of_row w g i C t f hg, hc i hi]⟩⟩
theorem xor_u8 (a b : Nat) (ha : a < 256) (hb : b < 256) : bits .xor .u8 (a : Int) (b : Int) = ((a ^^^ b : Nat) : Int) := u8_xor_nat a b ha hb
theorem info5 : (Try.prog.info? 5).map (fun i => (i.zero, i.size, i.bytes)) = some (some (.int .u8 0), 1, 1) := by kernel_rfl
theorem make23 (n : Nat) (hn : n ≤ 1000000) (w : World) : (Instr.makeSlice 23 (.int .i64 (n : Int)) (.int .i64 (n : Int))).run Try.prog w = .ok (.slice (some ⟨w.heap.size, 0, none⟩) n n) (w.alloc (.cells (madeCells #[.int .u8 0] n) 5)) := by
  obtain ⟨i0, hi, hz0, hz1, hz2⟩ := info_parts info5
  have := run_make (P := Try.prog) w 23 5 i0 _ Try.underlying23 hi hz0 .i64 .i64 n n (by omega) (by omega) (by rw [hz2]; omega) (by omega)
  rw [hz1, Int.toNat_natCast, Nat.mul_one] at this
  exact this

theorem at_new (w : World) (t : TypeId) (cs : Array Value) (n : Nat) (hn : n = w.heap.size) : At (w.alloc (.cells cs t)) n t cs := by subst hn; exact At.new w t cs
theorem bytes_zero (la lb : List Nat) (k : Nat) {w : World} {g : Nat} (h : At w g 5 (xk la lb k 0)) : Bytes w (some ⟨g, 0, none⟩) k (List.replicate k 0) :=
  bytes_row h (by simp) (fun c hc => by rw [(List.mem_replicate.1 hc).2]; omega) fun i hi => by
    rw [xk_get _ _ _ _ _ hi, if_neg (by omega), List.getD_eq_getElem?_getD, List.getElem?_replicate, if_pos hi]; rfl
theorem bytes_xors {la lb : List Nat} {k nb : Nat} (h1 : la.length = k) (h2 : lb.length = nb) (hk : k ≤ nb) (ha : ∀ c ∈ la, c < 256) (hb : ∀ c ∈ lb, c < 256) {w : World} {g : Nat} (h : At w g 5 (xk la lb k k)) :
    Bytes w (some ⟨g, 0, none⟩) k (xors la (lb.take k)) :=
  bytes_row h (by rw [xors_length, List.length_take]; omega) (xors_lt ha fun c hc => hb c (List.mem_of_mem_take hc)) fun i hi => by
    rw [xk_get _ _ _ _ _ hi, if_pos hi, xors_getD _ _ _ (by omega) (by rw [List.length_take]; omega)]
    rw [List.getD_eq_getElem?_getD (l := lb.take k), List.getElem?_take, if_pos hi, ← List.getD_eq_getElem?_getD]

set_option maxHeartbeats 2000000 in
set_option maxRecDepth 100000 in
theorem linear_any (p s : Nat) (hp : p < 4294967296) (hs : s < 4294967296) (a b : Option Addr) (na ca nb cb : Nat) (la lb : List Nat) (w : World) (ha : Bytes w a na la) (hb : Bytes w b nb lb) (hcb : nb ≤ cb) :
    Calls Try.prog 5 #[.int .u32 p, .int .u32 s, .slice a na ca, .slice b nb cb] w fun e w' => e = .returned (.bool true) ∧ Below w.heap.size w w' := by
  have HA := Lib.hid ha
  have HB := Lib.hid hb
  clear ha hb
  by_cases hg : na ≤ 300 ∧ na ≤ nb ∧ nb ≤ 300
  · obtain ⟨g1, g2, g3⟩ := hg
    have hz := zero26 p
    have hst := store26 p p 0
    have hmk := make23 na (by omega)
    rw [xk_zero la lb] at hmk
    go_enter Try.func5, Try.ntmps5
    go_wp2_with fail
    refine (make_any _ hp _).mono ?_
    rintro e w1 ⟨rfl, rfl⟩
    go_wp2_with fail
    obtain ⟨W, hW⟩ : ∃ W, W = (w.alloc (.cells (tabv p) 26)).alloc (.cells (tabv p) 26) := ⟨_, rfl⟩
    rw [← hW]
    obtain ⟨hsz, hbel, _, hrow, hopen⟩ := tab_facts w W p hW
    clear hW hz hst hmk
    rw [← hsz]
    have hgl : w.heap.size + 1 < W.heap.size := by omega
    have HA := Lib.hid (HA.out.below hbel (Nat.le_refl _))
    have HB := Lib.hid (HB.out.below hbel (Nat.le_refl _))
    have HB0 := Lib.hid hbel
    clear hsz hbel
    generalize w.heap.size + 1 = g at *
    obtain ⟨gc, hgc⟩ : ∃ gc, gc = W.heap.size := ⟨_, rfl⟩
    rw [← hgc]
    have hgg : g < gc := by omega
    go_loopw [11] (fun i wr => ∃ k : Nat, k ≤ na ∧ i = .int .i64 k ∧ At wr gc 5 (xk la lb na k) ∧ Below W.heap.size W wr) (fun i _ => na - (intOf i).toNat)
    case atStart => exact ⟨0, by omega, rfl, by rw [hgc]; exact At.new _ _ _, (Below.refl _ _).alloc (Nat.le_refl _) _⟩
    case round =>
      obtain ⟨k, hk, rfl, hat, hbl⟩ := hrel
      have HAT := Lib.hid hat
      have HBL := Lib.hid hbl
      have HGC := Lib.hid hgc
      clear hat hbl hgc
      by_cases hlt : k < na
      · obtain ⟨ba, oa, rfl, hba, hca⟩ := HA.out.2.2 (by omega)
        obtain ⟨bb, ob, rfl, hbb, hcb'⟩ := HB.out.2.2 (by omega)
        have hx1 : wr.cell? ⟨ba, oa + k, none⟩ = _ := (HBL.out.cell (p := ⟨ba, oa + k, none⟩) hba).trans (hca k hlt)
        have hx2 : wr.cell? ⟨bb, ob + k, none⟩ = _ := (HBL.out.cell (p := ⟨bb, ob + k, none⟩) hbb).trans (hcb' k (by omega))
        have hkb : k < nb := by omega
        have hna : ¬ ba = gc := by have := HGC.out; omega
        have hnb : ¬ bb = gc := by have := HGC.out; omega
        have hba' : ba < wr.heap.size := by have := HBL.out.size; omega
        have hbb' : bb < wr.heap.size := by have := HBL.out.size; omega
        have hco := (HAT.out.cell k).trans (xk_get la lb na k k hlt)
        have hcf := HAT.out.frozen k
        clear hca hcb'
        have h8a : la.getD k 0 < 256 := HA.out.2.1 _ (by rw [List.getD_eq_getElem?_getD, List.getElem?_eq_getElem (by have := HA.out.1; omega)]; exact List.getElem_mem _)
        have h8b : lb.getD k 0 < 256 := HB.out.2.1 _ (by rw [List.getD_eq_getElem?_getD, List.getElem?_eq_getElem (by have := HB.out.1; omega)]; exact List.getElem_mem _)
        have hxx := xor_u8 _ _ h8a h8b
        have HS := Lib.hid (xk_set la lb na k hlt)
        generalize la.getD k 0 = da at *
        generalize lb.getD k 0 = db at *
        go_wp2_with fail
        refine region_sq (fun i => i = gc) [(0, true), (1, true), (2, true), (3, true), (4, true), (5, true), (6, true), (7, true), (8, true), (9, true), (10, true), (11, true), (12, false)] (by kernel_rfl) (by kernel_rfl) (fun _ _ d _ _ h => by cases d <;> exact h) ?_
        repeat (refine sq_yes rfl (by rfl) (fun w' hM => by ((try replace hM := hM.of_drew); obtain ⟨hR1, hR2, hR3⟩ := hM.rules; clear hM; go_simp; with_reducible rfl)) ?_; simp only [Act.put, List.setIfInBounds_toArray, List.set_cons_zero, List.set_cons_succ])
        refine sq_do_yes rfl (by rfl) (fun K hK => ?_)
        go_wp2_with fail
        refine ⟨to_drew (((Mod.refl (fun i => i = gc) wr).setCell ⟨gc, k, none⟩ _ (fun _ => rfl)).drew), ?_⟩
        refine sq_end ?_
        go_wp2_with fail
        go_roundw
        case rel => exact ⟨k + 1, by omega, by go_num, by rw [← HS.out]; exact HAT.out.set k _, (HBL.out.setCell (p := ⟨gc, k, none⟩) (by rw [HGC.out]; exact Nat.le_refl _) _).drew⟩
        case measure => simp [intOf]; omega
      · obtain rfl : k = na := by omega
        have hgk : g < wr.heap.size := by have := HBL.out.size; omega
        have hrow' : row wr g = tabv p := ((Mod.of_below (M := fun _ => False) HBL.out).rules.2.1 g hgl id).trans hrow
        have hopen' : open_ wr g = true := ((Mod.of_below (M := fun _ => False) HBL.out).rules.2.2 g hgl id).trans hopen
        have hk1 : k ≤ la.length := by have := HA.out.1; omega
        have hA := crc_lt hp hs HA.out.2.1
        have hB : crc p s (lb.take k) < 4294967296 := crc_lt hp hs fun c hc => HB.out.2.1 c (List.mem_of_mem_take hc)
        have hZ : crc p s (List.replicate k 0) < 4294967296 := crc_lt hp hs fun c hc => by rw [(List.mem_replicate.1 hc).2]; omega
        have hx1 := u32_xor_nat _ _ hA hB
        have hx2 := u32_xor_nat _ _ (Nat.xor_lt_two_pow (n := 32) hA hB) hZ
        have HK := Lib.hid HA.out.1
        rw [show List.replicate k 0 = List.replicate la.length 0 from by rw [HK.out], crc_xor p s la (lb.take k) (by rw [List.length_take, HA.out.1, HB.out.1]; omega), HK.out] at hx2
        have hmk := make23 k (by omega)
        rw [xk_zero la lb] at hmk
        clear hrow hopen hgl hA hB hZ hk1
        go_wp2_with fail
        refine region_sq_till (fun _ => False) [(0, true), (1, true), (2, true), (4, true), (5, true), (6, true), (9, true), (10, true), (11, true), (12, true), (16, true), (17, true), (18, true)] 12 (by kernel_rfl) (by kernel_rfl) (fun _ _ d _ _ h => by cases d <;> exact h) ?_
        repeat (refine sq_yes rfl (by rfl) (fun w' hM => by ((try replace hM := hM.of_drew); obtain ⟨hR1, hR2, hR3⟩ := hM.rules; clear hM; go_simp; with_reducible rfl)) ?_; simp only [Act.put, List.setIfInBounds_toArray, List.set_cons_zero, List.set_cons_succ])
        refine sq_end ?_
        refine any_two 3 13 (by kernel_rfl) ?_ ?_
        · refine sq_do_yes rfl (by rfl) (fun K hK => ?_)
          go_wp2_with fail
          refine (of_any p hp s hs a k ca la _ ((HA.out.below HBL.out (Nat.le_refl _)).below (by repeat first | exact Below.refl _ _ | refine Below.drew ?_ | refine Below.alloc ?_ (by simp <;> omega) _) (Nat.le_refl _)) (by omega)).mono ?_
          rintro e w' ⟨rfl, rfl⟩
          go_wp2_with fail
          refine ⟨(Mod.refl _ _).alloc _, ?_⟩
          refine sq_end ?_
          refine any_two 7 13 (by kernel_rfl) ?_ ?_
          · refine sq_do_yes rfl (by rfl) (fun K hK => ?_)
            go_wp2_with fail
            refine (of_any p hp s hs b k cb (lb.take k) _ (((HB.out.take g2).below HBL.out (Nat.le_refl _)).below (by repeat first | exact Below.refl _ _ | refine Below.drew ?_ | refine Below.alloc ?_ (by simp <;> omega) _) (Nat.le_refl _)) (by omega)).mono ?_
            rintro e w' ⟨rfl, rfl⟩
            go_wp2_with fail
            refine ⟨(Mod.refl _ _).alloc _, ?_⟩
            refine sq_end ?_
            refine any_sq (n := 0) [(8, true), (13, false), (14, false), (15, true), (19, false), (20, true), (21, true), (22, false), (23, true), (24, true)] (by kernel_rfl) (fun _ _ d _ _ h => by cases d <;> exact h) ?_
            repeat (refine sq_yes rfl (by rfl) (fun w' hM => by ((try replace hM := hM.of_drew); obtain ⟨hR1, hR2, hR3⟩ := hM.rules; clear hM; go_simp; with_reducible rfl)) ?_; simp only [Act.put, List.setIfInBounds_toArray, List.set_cons_zero, List.set_cons_succ])
            refine sq_do_yes rfl (by rfl) (fun K hK => ?_)
            go_wp2_with fail
            refine ⟨(Mod.refl _ _).alloc _, ?_⟩
            repeat (refine sq_yes rfl (by rfl) (fun w' hM => by ((try replace hM := hM.of_drew); obtain ⟨hR1, hR2, hR3⟩ := hM.rules; clear hM; go_simp; with_reducible rfl)) ?_; simp only [Act.put, List.setIfInBounds_toArray, List.set_cons_zero, List.set_cons_succ])
            refine sq_do_yes rfl (by rfl) (fun K hK => ?_)
            go_wp2_with fail
            refine (of_any p hp s hs _ k k (List.replicate k 0) _ (bytes_zero la lb k (by repeat first | exact at_new _ _ _ _ (by simp) | refine At.drew ?_ | refine At.alloc ?_ _)) (by omega)).mono ?_
            rintro e w' ⟨rfl, rfl⟩
            go_wp2_with fail
            refine ⟨(Mod.refl _ _).alloc _, ?_⟩
            repeat (refine sq_yes rfl (by rfl) (fun w' hM => by ((try replace hM := hM.of_drew); obtain ⟨hR1, hR2, hR3⟩ := hM.rules; clear hM; go_simp; with_reducible rfl)) ?_; simp only [Act.put, List.setIfInBounds_toArray, List.set_cons_zero, List.set_cons_succ])
            refine sq_do_yes rfl (by rfl) (fun K hK => ?_)
            go_wp2_with fail
            refine (of_any p hp s hs _ k k (xors la (lb.take k)) _ ((bytes_xors HA.out.1 HB.out.1 g2 HA.out.2.1 HB.out.2.1 HAT.out).below (by repeat first | exact Below.refl _ _ | refine Below.drew ?_ | refine Below.alloc ?_ (by simp <;> omega) _) (Nat.le_refl _)) (by omega)).mono ?_
            rintro e w' ⟨rfl, rfl⟩
            go_wp2_with fail
            refine ⟨(Mod.refl _ _).alloc _, ?_⟩
            repeat (refine sq_yes rfl (by rfl) (fun w' hM => by ((try replace hM := hM.of_drew); obtain ⟨hR1, hR2, hR3⟩ := hM.rules; clear hM; go_simp; with_reducible rfl)) ?_; simp only [Act.put, List.setIfInBounds_toArray, List.set_cons_zero, List.set_cons_succ])
            refine sq_do_yes rfl (by rfl) (fun K hK => ?_)
            go_wp2_with fail
            refine (awake_any _).mono ?_
            rintro e w' ⟨rfl, hbb⟩
            go_wp2_with fail
            refine ⟨Mod.of_below hbb, ?_⟩
            repeat (refine sq_yes rfl (by rfl) (fun w' hM => by ((try replace hM := hM.of_drew); obtain ⟨hR1, hR2, hR3⟩ := hM.rules; clear hM; go_simp; with_reducible rfl)) ?_; simp only [Act.put, List.setIfInBounds_toArray, List.set_cons_zero, List.set_cons_succ])
            refine sq_end ?_
            refine any_end (by kernel_rfl) ?_
            go_wp2_with fail
            go_ret
            exact ⟨rfl, step_below HB0.out (step_below HBL.out (step_below (by repeat first | exact Below.refl _ _ | refine Below.drew ?_ | refine Below.alloc ?_ (by simp <;> omega) _) hbb))⟩
          · refine sq_do_yes rfl (by rfl) (fun K hK => ?_)
            go_wp2_with fail
            refine ⟨(Mod.refl _ _).alloc _, ?_⟩
            refine sq_end ?_
            refine any_sq (n := 0) [(7, false), (8, true), (14, false), (15, true), (19, false), (20, true), (21, true), (22, false), (23, true), (24, true)] (by kernel_rfl) (fun _ _ d _ _ h => by cases d <;> exact h) ?_
            repeat (refine sq_yes rfl (by rfl) (fun w' hM => by ((try replace hM := hM.of_drew); obtain ⟨hR1, hR2, hR3⟩ := hM.rules; clear hM; go_simp; with_reducible rfl)) ?_; simp only [Act.put, List.setIfInBounds_toArray, List.set_cons_zero, List.set_cons_succ])
            refine sq_do_yes rfl (by rfl) (fun K hK => ?_)
            go_wp2_with fail
            refine (of_any p hp s hs b k cb (lb.take k) _ (((HB.out.take g2).below HBL.out (Nat.le_refl _)).below (by repeat first | exact Below.refl _ _ | refine Below.drew ?_ | refine Below.alloc ?_ (by simp <;> omega) _) (Nat.le_refl _)) (by omega)).mono ?_
            rintro e w' ⟨rfl, rfl⟩
            go_wp2_with fail
            refine ⟨(Mod.refl _ _).alloc _, ?_⟩
            repeat (refine sq_yes rfl (by rfl) (fun w' hM => by ((try replace hM := hM.of_drew); obtain ⟨hR1, hR2, hR3⟩ := hM.rules; clear hM; go_simp; with_reducible rfl)) ?_; simp only [Act.put, List.setIfInBounds_toArray, List.set_cons_zero, List.set_cons_succ])
            refine sq_do_yes rfl (by rfl) (fun K hK => ?_)
            go_wp2_with fail
            refine (of_any p hp s hs _ k k (List.replicate k 0) _ (bytes_zero la lb k (by repeat first | exact at_new _ _ _ _ (by simp) | refine At.drew ?_ | refine At.alloc ?_ _)) (by omega)).mono ?_
            rintro e w' ⟨rfl, rfl⟩
            go_wp2_with fail
            refine ⟨(Mod.refl _ _).alloc _, ?_⟩
            repeat (refine sq_yes rfl (by rfl) (fun w' hM => by ((try replace hM := hM.of_drew); obtain ⟨hR1, hR2, hR3⟩ := hM.rules; clear hM; go_simp; with_reducible rfl)) ?_; simp only [Act.put, List.setIfInBounds_toArray, List.set_cons_zero, List.set_cons_succ])
            refine sq_do_yes rfl (by rfl) (fun K hK => ?_)
            go_wp2_with fail
            refine (of_any p hp s hs _ k k (xors la (lb.take k)) _ ((bytes_xors HA.out.1 HB.out.1 g2 HA.out.2.1 HB.out.2.1 HAT.out).below (by repeat first | exact Below.refl _ _ | refine Below.drew ?_ | refine Below.alloc ?_ (by simp <;> omega) _) (Nat.le_refl _)) (by omega)).mono ?_
            rintro e w' ⟨rfl, rfl⟩
            go_wp2_with fail
            refine ⟨(Mod.refl _ _).alloc _, ?_⟩
            repeat (refine sq_yes rfl (by rfl) (fun w' hM => by ((try replace hM := hM.of_drew); obtain ⟨hR1, hR2, hR3⟩ := hM.rules; clear hM; go_simp; with_reducible rfl)) ?_; simp only [Act.put, List.setIfInBounds_toArray, List.set_cons_zero, List.set_cons_succ])
            refine sq_do_yes rfl (by rfl) (fun K hK => ?_)
            go_wp2_with fail
            refine (awake_any _).mono ?_
            rintro e w' ⟨rfl, hbb⟩
            go_wp2_with fail
            refine ⟨Mod.of_below hbb, ?_⟩
            repeat (refine sq_yes rfl (by rfl) (fun w' hM => by ((try replace hM := hM.of_drew); obtain ⟨hR1, hR2, hR3⟩ := hM.rules; clear hM; go_simp; with_reducible rfl)) ?_; simp only [Act.put, List.setIfInBounds_toArray, List.set_cons_zero, List.set_cons_succ])
            refine sq_end ?_
            refine any_end (by kernel_rfl) ?_
            go_wp2_with fail
            go_ret
            exact ⟨rfl, step_below HB0.out (step_below HBL.out (step_below (by repeat first | exact Below.refl _ _ | refine Below.drew ?_ | refine Below.alloc ?_ (by simp <;> omega) _) hbb))⟩
        · refine sq_do_yes rfl (by rfl) (fun K hK => ?_)
          go_wp2_with fail
          refine ⟨(Mod.refl _ _).alloc _, ?_⟩
          refine sq_end ?_
          refine any_sq (n := 0) [(3, false), (7, false), (8, true), (14, false), (15, true), (19, false), (20, true), (21, true), (22, false), (23, true), (24, true)] (by kernel_rfl) (fun _ _ d _ _ h => by cases d <;> exact h) ?_
          repeat (refine sq_yes rfl (by rfl) (fun w' hM => by ((try replace hM := hM.of_drew); obtain ⟨hR1, hR2, hR3⟩ := hM.rules; clear hM; go_simp; with_reducible rfl)) ?_; simp only [Act.put, List.setIfInBounds_toArray, List.set_cons_zero, List.set_cons_succ])
          refine sq_do_yes rfl (by rfl) (fun K hK => ?_)
          go_wp2_with fail
          refine (of_any p hp s hs a k ca la _ ((HA.out.below HBL.out (Nat.le_refl _)).below (by repeat first | exact Below.refl _ _ | refine Below.drew ?_ | refine Below.alloc ?_ (by simp <;> omega) _) (Nat.le_refl _)) (by omega)).mono ?_
          rintro e w' ⟨rfl, rfl⟩
          go_wp2_with fail
          refine ⟨(Mod.refl _ _).alloc _, ?_⟩
          repeat (refine sq_yes rfl (by rfl) (fun w' hM => by ((try replace hM := hM.of_drew); obtain ⟨hR1, hR2, hR3⟩ := hM.rules; clear hM; go_simp; with_reducible rfl)) ?_; simp only [Act.put, List.setIfInBounds_toArray, List.set_cons_zero, List.set_cons_succ])
          refine sq_do_yes rfl (by rfl) (fun K hK => ?_)
          go_wp2_with fail
          refine (of_any p hp s hs b k cb (lb.take k) _ (((HB.out.take g2).below HBL.out (Nat.le_refl _)).below (by repeat first | exact Below.refl _ _ | refine Below.drew ?_ | refine Below.alloc ?_ (by simp <;> omega) _) (Nat.le_refl _)) (by omega)).mono ?_
          rintro e w' ⟨rfl, rfl⟩
          go_wp2_with fail
          refine ⟨(Mod.refl _ _).alloc _, ?_⟩
          repeat (refine sq_yes rfl (by rfl) (fun w' hM => by ((try replace hM := hM.of_drew); obtain ⟨hR1, hR2, hR3⟩ := hM.rules; clear hM; go_simp; with_reducible rfl)) ?_; simp only [Act.put, List.setIfInBounds_toArray, List.set_cons_zero, List.set_cons_succ])
          refine sq_do_yes rfl (by rfl) (fun K hK => ?_)
          go_wp2_with fail
          refine (of_any p hp s hs _ k k (List.replicate k 0) _ (bytes_zero la lb k (by repeat first | exact at_new _ _ _ _ (by simp) | refine At.drew ?_ | refine At.alloc ?_ _)) (by omega)).mono ?_
          rintro e w' ⟨rfl, rfl⟩
          go_wp2_with fail
          refine ⟨(Mod.refl _ _).alloc _, ?_⟩
          repeat (refine sq_yes rfl (by rfl) (fun w' hM => by ((try replace hM := hM.of_drew); obtain ⟨hR1, hR2, hR3⟩ := hM.rules; clear hM; go_simp; with_reducible rfl)) ?_; simp only [Act.put, List.setIfInBounds_toArray, List.set_cons_zero, List.set_cons_succ])
          refine sq_do_yes rfl (by rfl) (fun K hK => ?_)
          go_wp2_with fail
          refine (of_any p hp s hs _ k k (xors la (lb.take k)) _ ((bytes_xors HA.out.1 HB.out.1 g2 HA.out.2.1 HB.out.2.1 HAT.out).below (by repeat first | exact Below.refl _ _ | refine Below.drew ?_ | refine Below.alloc ?_ (by simp <;> omega) _) (Nat.le_refl _)) (by omega)).mono ?_
          rintro e w' ⟨rfl, rfl⟩
          go_wp2_with fail
          refine ⟨(Mod.refl _ _).alloc _, ?_⟩
          repeat (refine sq_yes rfl (by rfl) (fun w' hM => by ((try replace hM := hM.of_drew); obtain ⟨hR1, hR2, hR3⟩ := hM.rules; clear hM; go_simp; with_reducible rfl)) ?_; simp only [Act.put, List.setIfInBounds_toArray, List.set_cons_zero, List.set_cons_succ])
          refine sq_do_yes rfl (by rfl) (fun K hK => ?_)
          go_wp2_with fail
          refine (awake_any _).mono ?_
          rintro e w' ⟨rfl, hbb⟩
          go_wp2_with fail
          refine ⟨Mod.of_below hbb, ?_⟩
          repeat (refine sq_yes rfl (by rfl) (fun w' hM => by ((try replace hM := hM.of_drew); obtain ⟨hR1, hR2, hR3⟩ := hM.rules; clear hM; go_simp; with_reducible rfl)) ?_; simp only [Act.put, List.setIfInBounds_toArray, List.set_cons_zero, List.set_cons_succ])
          refine sq_end ?_
          refine any_end (by kernel_rfl) ?_
          go_wp2_with fail
          go_ret
          exact ⟨rfl, step_below HB0.out (step_below HBL.out (step_below (by repeat first | exact Below.refl _ _ | refine Below.drew ?_ | refine Below.alloc ?_ (by simp <;> omega) _) hbb))⟩
  · have hg' : 300 < na ∨ (na ≤ 300 ∧ nb < na) ∨ (na ≤ 300 ∧ na ≤ nb ∧ 300 < nb) := by omega
    clear hg hcb
    rcases hg' with g1 | ⟨g1, g2⟩ | ⟨g1, g2, g3⟩ <;>
    · go_enter Try.func5, Try.ntmps5
      go_wp2_with fail
      refine (awake_any _).mono ?_
      rintro e w1 ⟨rfl, hb⟩
      go_wp2_with fail
      go_ret
      exact ⟨rfl, hb⟩
end Go.Proofs.Ytadnfpgcfjinoaa
