/-
  Texts in one, each behind those that it needs: FamKeyB, FamRef.
-/
import Derived.Test.YthfgccibiajneaaBad
import Derived.Deep.DeepCutAuto
/-
  key.Bytes and the document's.
-/
namespace Go.Proofs.Ythfgccibiajneaa
open Go.RowKit
theorem OB.parts {w : World} {base : Nat} {v : Value} {l : List Nat} (h : OB w base v l) : ∃ a n c, v = .slice a n c ∧ n = l.length ∧ Bytes w a n l ∧ n ≤ c := by
  obtain ⟨a, c, h1, h2, h3⟩ := h.bytes
  exact ⟨a, l.length, c, h1, rfl, h2, h3⟩
def kind (k : Ky) : Nat := if k.src.v6 then 6 else 4
/-- A flow's bytes. -/
def kbytes (k : Ky) : List Nat := if kvld k then ([k.proto, kind k] ++ abytes k.src ++ abytes k.dst) ++ [k.sp / 256, k.sp % 256] ++ [k.dp / 256, k.dp % 256] else []
theorem kind_lt (k : Ky) : kind k < 256 := by unfold kind; split <;> omega
theorem bytes_two (w : World) (x y : Nat) (hx : x < 256) (hy : y < 256) (g : Nat) (hg : g = w.heap.size) (t : TypeId) : Bytes (w.alloc (.cells #[.int .u8 x, .int .u8 y] t)) (some ⟨g, 0, none⟩) 2 [x, y] := by
  subst hg
  refine ⟨rfl, fun c hc => by simp at hc; omega, fun _ => ⟨w.heap.size, 0, rfl, by simp, fun i hi => ?_⟩⟩
  rw [cell_of_row _ _ _ _ _ _ (heap_alloc_new w _), Nat.zero_add]
  match i, hi with
  | 0, _ | 1, _ => rfl
theorem bytes_drew {w : World} {a : Option Addr} {n : Nat} {l : List Nat} (h : Bytes w a n l) : Bytes w.drew a n l := h
theorem glue3 (a b c : Option Addr) (x y z : Nat) (l m n : List Nat) : glue [(a, x, l), (b, y, m), (c, z, n)] = l ++ m ++ n := by simp [glue]
theorem pieces3 (W : World) (g3 : Nat) (a6 a9 : Option Addr) (c6 c9 : Nat) (l3 l6 l9 : List Nat) (h3 : Bytes W (some ⟨g3, 0, none⟩) l3.length l3) (h6 : Bytes W a6 l6.length l6) (h9 : Bytes W a9 l9.length l9) (t : TypeId) :
    ∀ (j : Nat) (p : Piece), [(some ⟨g3, 0, none⟩, l3.length, l3), (a6, c6, l6), (a9, c9, l9)][j]? = some p →
      (W.alloc (.cells #[.slice (some ⟨g3, 0, none⟩) l3.length l3.length, .slice a6 l6.length c6, .slice a9 l9.length c9] t)).cell? ⟨W.heap.size, j, none⟩ = some p.val ∧
      Bytes (W.alloc (.cells #[.slice (some ⟨g3, 0, none⟩) l3.length l3.length, .slice a6 l6.length c6, .slice a9 l9.length c9] t)) p.1 p.2.2.length p.2.2 := by
  intro j p hp
  have hb := (Below.refl W.heap.size W).alloc (Nat.le_refl _) (.cells #[.slice (some ⟨g3, 0, none⟩) l3.length l3.length, .slice a6 l6.length c6, .slice a9 l9.length c9] t)
  rw [cell_of_row _ _ _ _ _ _ (heap_alloc_new W _)]
  match j with
  | 0 => simp at hp; subst hp; exact ⟨rfl, h3.below hb⟩
  | 1 => simp at hp; subst hp; exact ⟨rfl, h6.below hb⟩
  | 2 => simp at hp; subst hp; exact ⟨rfl, h9.below hb⟩
  | j + 3 => simp at hp
set_option maxRecDepth 100000 in
set_option maxHeartbeats 4000000 in
theorem kbytes_any (k : Ky) (w : World) : Calls Try.prog 110 #[.agg (kc k)] w fun e w' => ∃ v, e = .returned v ∧ OB w' w.heap.size v (kbytes k) ∧ Below w.heap.size w w' := by
  have HK := Lib.hid (show kbytes k = if kvld k then ([k.proto, kind k] ++ abytes k.src ++ abytes k.dst) ++ [k.sp / 256, k.sp % 256] ++ [k.dp / 256, k.dp % 256] else [] from rfl)
  cases hv : kvld k
  · rw [hv] at HK
    go_enter Try.func110, Try.ntmps110
    go_wp2_with fail
    refine (kvalid_any k _).mono ?_
    rintro e w1 ⟨rfl, hb⟩
    rw [hv]
    go_wp2_with fail
    go_ret
    exact ⟨_, rfl, by rw [HK.out]; exact OB.nil _ _, step_below ((Below.refl _ _).alloc (Nat.le_refl _) _) hb⟩
  · rw [hv, if_pos rfl] at HK
    have HKD : Hid (kind k = if k.src.v6 then 6 else 4) := Lib.hid rfl
    have hkl := kind_lt k
    cases h6 : k.src.v6
    · rw [h6] at HKD
      go_enter Try.func110, Try.ntmps110
      go_wp2_with fail
      refine (kvalid_any k _).mono ?_
      rintro e w1 ⟨rfl, hb⟩
      rw [hv]
      have hA := (At.new w 31 (kc k)).below hb (by simp)
      have HB1 := Lib.hid (step_below ((Below.refl _ w).alloc (Nat.le_refl _) _) hb)
      have hr := hA.row
      have ho := hA.open
      have hl := hA.lt
      have c18 := hA.cell 1
      have c0 := hA.cell 0
      rw [kc_1?] at c18
      rw [kc_0?] at c0
      obtain ⟨g, hg⟩ : ∃ g, g = w.heap.size := ⟨_, rfl⟩
      rw [← hg] at hr ho hl c18 c0 hA
      rw [← hg]
      have HA := Lib.hid hA
      have HG := Lib.hid hg
      clear hb hA hg
      go_upto_region 6 with fail
      go_cut [4] (fun s4 wx => ∃ v, s4 = v ∧ OB wx w.heap.size v ([k.proto, 4] ++ abytes k.src ++ abytes k.dst) ∧ Below w1.heap.size w1 wx)
      case first =>
        refine region_sq_till (fun _ => False) [(0, true), (1, true), (2, true), (4, true), (5, true), (7, true), (8, true)] 6 (by kernel_rfl) (by kernel_rfl) (fun _ _ d _ _ h => by cases d <;> exact h) ?_
        repeat (first
          | (refine sq_yes rfl (by rfl) (fun w' hM => by ((try replace hM := hM.of_drew); obtain ⟨hR1, hR2, hR3⟩ := hM.rules; clear hM; go_simp; with_reducible rfl)) ?_; simp only [Act.put, List.setIfInBounds_toArray, List.set_cons_zero, List.set_cons_succ])
          | (refine sq_no rfl (by rfl) ?_; simp only [Act.put, List.setIfInBounds_toArray, List.set_cons_zero, List.set_cons_succ]))
        refine sq_end ?_
        have HW0 := Lib.hid ((Below.refl w1.heap.size w1).drew)
        have hgd : g < w1.drew.heap.size := hl
        clear hr ho hl c18 c0 HA
        generalize w1.drew = W0 at *
        refine any_two (n := 5) 3 6 (by kernel_rfl) ?_ ?_
        · refine sq_do_yes rfl (by rfl) (fun K hK => ?_)
          go_wp2_with fail
          obtain ⟨g3, hg3⟩ : ∃ g, g = W0.heap.size := ⟨_, rfl⟩
          have y3_1 : Bytes (W0.alloc (.cells #[.int .u8 k.proto, .int .u8 4] 5)) (some ⟨g3, 0, none⟩) 2 [k.proto, 4] := bytes_two W0 k.proto 4 k.hp (by omega) g3 hg3 5
          have b0 : Below W0.heap.size W0 (W0.alloc (.cells #[.int .u8 k.proto, .int .u8 4] 5)) := (Below.refl _ _).alloc (Nat.le_refl _) _
          have gm3 : g3 < (W0.alloc (.cells #[.int .u8 k.proto, .int .u8 4] 5)).heap.size := by rw [hg3]; simp
          rw [← hg3]
          clear hg3
          generalize W0.alloc (.cells #[.int .u8 k.proto, .int .u8 4] 5) = W1 at *
          refine ⟨Mod.of_below b0, ?_⟩
          have HW1 := Lib.hid (HW0.out.trans (b0.mono HW0.out.size))
          clear b0
          refine sq_end ?_
          refine any_sq (n := 0) [(6, false), (9, false), (10, false), (11, false), (12, true)] (by kernel_rfl) (fun _ _ d _ _ h => by cases d <;> exact h) ?_
          refine sq_do_yes rfl (by rfl) (fun K hK => ?_)
          go_wp2_with fail
          refine (bytes_any k.src _).mono ?_
          rintro e W2 ⟨v, rfl, ho, b1⟩
          obtain ⟨a6, c6, rfl, y6_2, _⟩ := ho.bytes
          clear ho
          go_wp2_with fail
          refine ⟨Mod.of_below b1, ?_⟩
          have y3_2 := y3_1.below b1
          clear y3_1
          have HW2 := Lib.hid (HW1.out.trans (b1.mono HW1.out.size))
          clear b1
          refine sq_do_yes rfl (by rfl) (fun K hK => ?_)
          go_wp2_with fail
          refine (bytes_any k.dst _).mono ?_
          rintro e W3 ⟨v, rfl, ho, b2⟩
          obtain ⟨a9, c9, rfl, y9_3, _⟩ := ho.bytes
          clear ho
          go_wp2_with fail
          refine ⟨Mod.of_below b2, ?_⟩
          have y3_3 := y3_2.below b2
          clear y3_2
          have y6_3 := y6_2.below b2
          clear y6_2
          have HW3 := Lib.hid (HW2.out.trans (b2.mono HW2.out.size))
          clear b2
          refine sq_do_yes rfl (by rfl) (fun K hK => ?_)
          go_wp2_with fail
          refine ⟨(Mod.refl _ _).alloc _, ?_⟩
          refine sq_do_yes rfl (by rfl) (fun K hK => ?_)
          go_wp2_with fail
          refine (concat_any W3.heap.size [(some ⟨g3, 0, none⟩, 2, [k.proto, 4]), (a6, c6, abytes k.src), (a9, c9, abytes k.dst)] _ (by simp) (pieces3 W3 g3 a6 a9 c6 c9 _ _ _ y3_3 y6_3 y9_3 183) (by simp [glue]) (by simp [glue, abytes_length]; split <;> split <;> omega) (by simp)).mono ?_
          rintro e W5 ⟨v, rfl, ho, hb⟩
          rw [glue3] at ho
          go_wp2_with fail
          refine ⟨Mod.of_below hb, ?_⟩
          repeat (first
            | (refine sq_yes rfl (by rfl) (fun w' hM => by ((try replace hM := hM.of_drew); obtain ⟨hR1, hR2, hR3⟩ := hM.rules; clear hM; go_simp; with_reducible rfl)) ?_; simp only [Act.put, List.setIfInBounds_toArray, List.set_cons_zero, List.set_cons_succ])
            | (refine sq_no rfl (by rfl) ?_; simp only [Act.put, List.setIfInBounds_toArray, List.set_cons_zero, List.set_cons_succ]))
          refine sq_end ?_
          refine any_end (by kernel_rfl) ?_
          go_wp2_with fail
          go_meet
          exact ⟨v, rfl, ho.base (b' := w.heap.size) (by have := HW3.out.size; have := HB1.out.size; simp; omega), HW3.out.trans (((Below.refl _ _).alloc HW3.out.size _).trans (hb.mono (by have := HW3.out.size; simp; omega)))⟩
        · refine sq_do_yes rfl (by rfl) (fun K hK => ?_)
          go_wp2_with fail
          refine (bytes_any k.src _).mono ?_
          rintro e W1 ⟨v, rfl, ho, b0⟩
          obtain ⟨a6, c6, rfl, y6_1, _⟩ := ho.bytes
          clear ho
          go_wp2_with fail
          refine ⟨Mod.of_below b0, ?_⟩
          have HW1 := Lib.hid (HW0.out.trans (b0.mono HW0.out.size))
          clear b0
          refine sq_end ?_
          refine any_two (n := 4) 3 9 (by kernel_rfl) ?_ ?_
          · refine sq_do_yes rfl (by rfl) (fun K hK => ?_)
            go_wp2_with fail
            obtain ⟨g3, hg3⟩ : ∃ g, g = W1.heap.size := ⟨_, rfl⟩
            have y3_2 : Bytes (W1.alloc (.cells #[.int .u8 k.proto, .int .u8 4] 5)) (some ⟨g3, 0, none⟩) 2 [k.proto, 4] := bytes_two W1 k.proto 4 k.hp (by omega) g3 hg3 5
            have b1 : Below W1.heap.size W1 (W1.alloc (.cells #[.int .u8 k.proto, .int .u8 4] 5)) := (Below.refl _ _).alloc (Nat.le_refl _) _
            have gm3 : g3 < (W1.alloc (.cells #[.int .u8 k.proto, .int .u8 4] 5)).heap.size := by rw [hg3]; simp
            rw [← hg3]
            clear hg3
            generalize W1.alloc (.cells #[.int .u8 k.proto, .int .u8 4] 5) = W2 at *
            refine ⟨Mod.of_below b1, ?_⟩
            have y6_2 := y6_1.below b1
            clear y6_1
            have HW2 := Lib.hid (HW1.out.trans (b1.mono HW1.out.size))
            clear b1
            refine sq_end ?_
            refine any_sq (n := 0) [(9, false), (10, false), (11, false), (12, true)] (by kernel_rfl) (fun _ _ d _ _ h => by cases d <;> exact h) ?_
            refine sq_do_yes rfl (by rfl) (fun K hK => ?_)
            go_wp2_with fail
            refine (bytes_any k.dst _).mono ?_
            rintro e W3 ⟨v, rfl, ho, b2⟩
            obtain ⟨a9, c9, rfl, y9_3, _⟩ := ho.bytes
            clear ho
            go_wp2_with fail
            refine ⟨Mod.of_below b2, ?_⟩
            have y6_3 := y6_2.below b2
            clear y6_2
            have y3_3 := y3_2.below b2
            clear y3_2
            have HW3 := Lib.hid (HW2.out.trans (b2.mono HW2.out.size))
            clear b2
            refine sq_do_yes rfl (by rfl) (fun K hK => ?_)
            go_wp2_with fail
            refine ⟨(Mod.refl _ _).alloc _, ?_⟩
            refine sq_do_yes rfl (by rfl) (fun K hK => ?_)
            go_wp2_with fail
            refine (concat_any W3.heap.size [(some ⟨g3, 0, none⟩, 2, [k.proto, 4]), (a6, c6, abytes k.src), (a9, c9, abytes k.dst)] _ (by simp) (pieces3 W3 g3 a6 a9 c6 c9 _ _ _ y3_3 y6_3 y9_3 183) (by simp [glue]) (by simp [glue, abytes_length]; split <;> split <;> omega) (by simp)).mono ?_
            rintro e W5 ⟨v, rfl, ho, hb⟩
            rw [glue3] at ho
            go_wp2_with fail
            refine ⟨Mod.of_below hb, ?_⟩
            repeat (first
              | (refine sq_yes rfl (by rfl) (fun w' hM => by ((try replace hM := hM.of_drew); obtain ⟨hR1, hR2, hR3⟩ := hM.rules; clear hM; go_simp; with_reducible rfl)) ?_; simp only [Act.put, List.setIfInBounds_toArray, List.set_cons_zero, List.set_cons_succ])
              | (refine sq_no rfl (by rfl) ?_; simp only [Act.put, List.setIfInBounds_toArray, List.set_cons_zero, List.set_cons_succ]))
            refine sq_end ?_
            refine any_end (by kernel_rfl) ?_
            go_wp2_with fail
            go_meet
            exact ⟨v, rfl, ho.base (b' := w.heap.size) (by have := HW3.out.size; have := HB1.out.size; simp; omega), HW3.out.trans (((Below.refl _ _).alloc HW3.out.size _).trans (hb.mono (by have := HW3.out.size; simp; omega)))⟩
          · refine sq_do_yes rfl (by rfl) (fun K hK => ?_)
            go_wp2_with fail
            refine (bytes_any k.dst _).mono ?_
            rintro e W2 ⟨v, rfl, ho, b1⟩
            obtain ⟨a9, c9, rfl, y9_2, _⟩ := ho.bytes
            clear ho
            go_wp2_with fail
            refine ⟨Mod.of_below b1, ?_⟩
            have y6_2 := y6_1.below b1
            clear y6_1
            have HW2 := Lib.hid (HW1.out.trans (b1.mono HW1.out.size))
            clear b1
            refine sq_end ?_
            refine any_sq (n := 0) [(3, false), (10, false), (11, false), (12, true)] (by kernel_rfl) (fun _ _ d _ _ h => by cases d <;> exact h) ?_
            refine sq_do_yes rfl (by rfl) (fun K hK => ?_)
            go_wp2_with fail
            obtain ⟨g3, hg3⟩ : ∃ g, g = W2.heap.size := ⟨_, rfl⟩
            have y3_3 : Bytes (W2.alloc (.cells #[.int .u8 k.proto, .int .u8 4] 5)) (some ⟨g3, 0, none⟩) 2 [k.proto, 4] := bytes_two W2 k.proto 4 k.hp (by omega) g3 hg3 5
            have b2 : Below W2.heap.size W2 (W2.alloc (.cells #[.int .u8 k.proto, .int .u8 4] 5)) := (Below.refl _ _).alloc (Nat.le_refl _) _
            have gm3 : g3 < (W2.alloc (.cells #[.int .u8 k.proto, .int .u8 4] 5)).heap.size := by rw [hg3]; simp
            rw [← hg3]
            clear hg3
            generalize W2.alloc (.cells #[.int .u8 k.proto, .int .u8 4] 5) = W3 at *
            refine ⟨Mod.of_below b2, ?_⟩
            have y6_3 := y6_2.below b2
            clear y6_2
            have y9_3 := y9_2.below b2
            clear y9_2
            have HW3 := Lib.hid (HW2.out.trans (b2.mono HW2.out.size))
            clear b2
            refine sq_do_yes rfl (by rfl) (fun K hK => ?_)
            go_wp2_with fail
            refine ⟨(Mod.refl _ _).alloc _, ?_⟩
            refine sq_do_yes rfl (by rfl) (fun K hK => ?_)
            go_wp2_with fail
            refine (concat_any W3.heap.size [(some ⟨g3, 0, none⟩, 2, [k.proto, 4]), (a6, c6, abytes k.src), (a9, c9, abytes k.dst)] _ (by simp) (pieces3 W3 g3 a6 a9 c6 c9 _ _ _ y3_3 y6_3 y9_3 183) (by simp [glue]) (by simp [glue, abytes_length]; split <;> split <;> omega) (by simp)).mono ?_
            rintro e W5 ⟨v, rfl, ho, hb⟩
            rw [glue3] at ho
            go_wp2_with fail
            refine ⟨Mod.of_below hb, ?_⟩
            repeat (first
              | (refine sq_yes rfl (by rfl) (fun w' hM => by ((try replace hM := hM.of_drew); obtain ⟨hR1, hR2, hR3⟩ := hM.rules; clear hM; go_simp; with_reducible rfl)) ?_; simp only [Act.put, List.setIfInBounds_toArray, List.set_cons_zero, List.set_cons_succ])
              | (refine sq_no rfl (by rfl) ?_; simp only [Act.put, List.setIfInBounds_toArray, List.set_cons_zero, List.set_cons_succ]))
            refine sq_end ?_
            refine any_end (by kernel_rfl) ?_
            go_wp2_with fail
            go_meet
            exact ⟨v, rfl, ho.base (b' := w.heap.size) (by have := HW3.out.size; have := HB1.out.size; simp; omega), HW3.out.trans (((Below.refl _ _).alloc HW3.out.size _).trans (hb.mono (by have := HW3.out.size; simp; omega)))⟩
      case rest =>
        obtain ⟨v, rfl, ho4, hb⟩ := hcut
        have hA := HA.out.below hb HA.out.lt
        have HB2 := Lib.hid (step_below HB1.out hb)
        obtain ⟨l4, hl4⟩ : ∃ l4, l4 = [k.proto, 4] ++ abytes k.src ++ abytes k.dst := ⟨_, rfl⟩
        rw [← hl4] at ho4
        have HL4 := Lib.hid (show [k.proto, kind k] ++ abytes k.src ++ abytes k.dst = l4 by rw [hl4, HKD.out]; rfl)
        obtain ⟨a4, n4, c4, rfl, hn4, y4, _⟩ := ho4.parts
        have hn : n4 ≤ 34 := by rw [hn4, hl4]; simp [abytes_length]; split <;> split <;> omega
        have Y4 := Lib.hid y4
        clear hn4 hl4
        clear hr ho hl c18 c0 HA hb y4 ho4
        have c35 := hA.cell 35
        have c36 := hA.cell 36
        rw [kc_35?] at c35
        rw [kc_36?] at c36
        have hl := hA.lt
        have HA := Lib.hid hA
        clear hA
        go_wp2_with fail
        refine region_sq (fun _ => False) [(0, true), (1, true), (2, true), (4, true), (5, true), (3, false), (6, false), (7, true)] (by kernel_rfl) (by kernel_rfl) (fun _ _ d _ _ h => by cases d <;> exact h) ?_
        repeat (first
          | (refine sq_yes rfl (by rfl) (fun w' hM => by ((try replace hM := hM.of_drew); obtain ⟨hR1, hR2, hR3⟩ := hM.rules; clear hM; go_simp; with_reducible rfl)) ?_; simp only [Act.put, List.setIfInBounds_toArray, List.set_cons_zero, List.set_cons_succ])
          | (refine sq_no rfl (by rfl) ?_; simp only [Act.put, List.setIfInBounds_toArray, List.set_cons_zero, List.set_cons_succ]))
        refine sq_do_yes rfl (by rfl) (fun K hK => ?_)
        go_wp2_with fail
        refine (append_any a4 n4 c4 l4 k.sp _ (bytes_drew Y4.out) (by omega) k.hs).mono ?_
        rintro e w3 ⟨v3, rfl, ho3, hb3⟩
        obtain ⟨a3, n3, c3, rfl, hn3, y3, _⟩ := ho3.parts
        have hn3' : n3 ≤ 40 := by rw [hn3, List.length_append, Y4.out.1]; simp; omega
        clear hn3
        have Y3 := Lib.hid y3
        have HB3 := Lib.hid (step_below HB2.out.drew hb3)
        clear ho3 y3
        go_wp2_with fail
        refine ⟨Mod.of_below hb3, ?_⟩
        clear hb3
        refine sq_do_yes rfl (by rfl) (fun K hK => ?_)
        go_wp2_with fail
        refine (append_any a3 n3 c3 _ k.dp _ Y3.out (by omega) k.hd).mono ?_
        rintro e w4 ⟨v4, rfl, ho4, hb4⟩
        have HO4 := Lib.hid (ho4.base HB3.out.size)
        have HB4 := Lib.hid (step_below HB3.out hb4)
        go_wp2_with fail
        refine ⟨Mod.of_below hb4, ?_⟩
        clear hb4 ho4
        repeat (first
          | (refine sq_yes rfl (by rfl) (fun w' hM => by ((try replace hM := hM.of_drew); obtain ⟨hR1, hR2, hR3⟩ := hM.rules; clear hM; go_simp; with_reducible rfl)) ?_; simp only [Act.put, List.setIfInBounds_toArray, List.set_cons_zero, List.set_cons_succ])
          | (refine sq_no rfl (by rfl) ?_; simp only [Act.put, List.setIfInBounds_toArray, List.set_cons_zero, List.set_cons_succ]))
        refine sq_end ?_
        go_wp2_with fail
        go_ret
        exact ⟨_, rfl, by rw [HK.out, HL4.out]; exact HO4.out, HB4.out⟩
    · rw [h6] at HKD
      go_enter Try.func110, Try.ntmps110
      go_wp2_with fail
      refine (kvalid_any k _).mono ?_
      rintro e w1 ⟨rfl, hb⟩
      rw [hv]
      have hA := (At.new w 31 (kc k)).below hb (by simp)
      have HB1 := Lib.hid (step_below ((Below.refl _ w).alloc (Nat.le_refl _) _) hb)
      have hr := hA.row
      have ho := hA.open
      have hl := hA.lt
      have c18 := hA.cell 1
      have c0 := hA.cell 0
      rw [kc_1?] at c18
      rw [kc_0?] at c0
      obtain ⟨g, hg⟩ : ∃ g, g = w.heap.size := ⟨_, rfl⟩
      rw [← hg] at hr ho hl c18 c0 hA
      rw [← hg]
      have HA := Lib.hid hA
      have HG := Lib.hid hg
      clear hb hA hg
      go_upto_region 6 with fail
      go_cut [4] (fun s4 wx => ∃ v, s4 = v ∧ OB wx w.heap.size v ([k.proto, 6] ++ abytes k.src ++ abytes k.dst) ∧ Below w1.heap.size w1 wx)
      case first =>
        refine region_sq_till (fun _ => False) [(0, true), (1, true), (2, true), (4, true), (5, true), (7, true), (8, true)] 6 (by kernel_rfl) (by kernel_rfl) (fun _ _ d _ _ h => by cases d <;> exact h) ?_
        repeat (first
          | (refine sq_yes rfl (by rfl) (fun w' hM => by ((try replace hM := hM.of_drew); obtain ⟨hR1, hR2, hR3⟩ := hM.rules; clear hM; go_simp; with_reducible rfl)) ?_; simp only [Act.put, List.setIfInBounds_toArray, List.set_cons_zero, List.set_cons_succ])
          | (refine sq_no rfl (by rfl) ?_; simp only [Act.put, List.setIfInBounds_toArray, List.set_cons_zero, List.set_cons_succ]))
        refine sq_end ?_
        have HW0 := Lib.hid ((Below.refl w1.heap.size w1).drew)
        have hgd : g < w1.drew.heap.size := hl
        clear hr ho hl c18 c0 HA
        generalize w1.drew = W0 at *
        refine any_two (n := 5) 3 6 (by kernel_rfl) ?_ ?_
        · refine sq_do_yes rfl (by rfl) (fun K hK => ?_)
          go_wp2_with fail
          obtain ⟨g3, hg3⟩ : ∃ g, g = W0.heap.size := ⟨_, rfl⟩
          have y3_1 : Bytes (W0.alloc (.cells #[.int .u8 k.proto, .int .u8 6] 5)) (some ⟨g3, 0, none⟩) 2 [k.proto, 6] := bytes_two W0 k.proto 6 k.hp (by omega) g3 hg3 5
          have b0 : Below W0.heap.size W0 (W0.alloc (.cells #[.int .u8 k.proto, .int .u8 6] 5)) := (Below.refl _ _).alloc (Nat.le_refl _) _
          have gm3 : g3 < (W0.alloc (.cells #[.int .u8 k.proto, .int .u8 6] 5)).heap.size := by rw [hg3]; simp
          rw [← hg3]
          clear hg3
          generalize W0.alloc (.cells #[.int .u8 k.proto, .int .u8 6] 5) = W1 at *
          refine ⟨Mod.of_below b0, ?_⟩
          have HW1 := Lib.hid (HW0.out.trans (b0.mono HW0.out.size))
          clear b0
          refine sq_end ?_
          refine any_sq (n := 0) [(6, false), (9, false), (10, false), (11, false), (12, true)] (by kernel_rfl) (fun _ _ d _ _ h => by cases d <;> exact h) ?_
          refine sq_do_yes rfl (by rfl) (fun K hK => ?_)
          go_wp2_with fail
          refine (bytes_any k.src _).mono ?_
          rintro e W2 ⟨v, rfl, ho, b1⟩
          obtain ⟨a6, c6, rfl, y6_2, _⟩ := ho.bytes
          clear ho
          go_wp2_with fail
          refine ⟨Mod.of_below b1, ?_⟩
          have y3_2 := y3_1.below b1
          clear y3_1
          have HW2 := Lib.hid (HW1.out.trans (b1.mono HW1.out.size))
          clear b1
          refine sq_do_yes rfl (by rfl) (fun K hK => ?_)
          go_wp2_with fail
          refine (bytes_any k.dst _).mono ?_
          rintro e W3 ⟨v, rfl, ho, b2⟩
          obtain ⟨a9, c9, rfl, y9_3, _⟩ := ho.bytes
          clear ho
          go_wp2_with fail
          refine ⟨Mod.of_below b2, ?_⟩
          have y3_3 := y3_2.below b2
          clear y3_2
          have y6_3 := y6_2.below b2
          clear y6_2
          have HW3 := Lib.hid (HW2.out.trans (b2.mono HW2.out.size))
          clear b2
          refine sq_do_yes rfl (by rfl) (fun K hK => ?_)
          go_wp2_with fail
          refine ⟨(Mod.refl _ _).alloc _, ?_⟩
          refine sq_do_yes rfl (by rfl) (fun K hK => ?_)
          go_wp2_with fail
          refine (concat_any W3.heap.size [(some ⟨g3, 0, none⟩, 2, [k.proto, 6]), (a6, c6, abytes k.src), (a9, c9, abytes k.dst)] _ (by simp) (pieces3 W3 g3 a6 a9 c6 c9 _ _ _ y3_3 y6_3 y9_3 183) (by simp [glue]) (by simp [glue, abytes_length]; split <;> split <;> omega) (by simp)).mono ?_
          rintro e W5 ⟨v, rfl, ho, hb⟩
          rw [glue3] at ho
          go_wp2_with fail
          refine ⟨Mod.of_below hb, ?_⟩
          repeat (first
            | (refine sq_yes rfl (by rfl) (fun w' hM => by ((try replace hM := hM.of_drew); obtain ⟨hR1, hR2, hR3⟩ := hM.rules; clear hM; go_simp; with_reducible rfl)) ?_; simp only [Act.put, List.setIfInBounds_toArray, List.set_cons_zero, List.set_cons_succ])
            | (refine sq_no rfl (by rfl) ?_; simp only [Act.put, List.setIfInBounds_toArray, List.set_cons_zero, List.set_cons_succ]))
          refine sq_end ?_
          refine any_end (by kernel_rfl) ?_
          go_wp2_with fail
          go_meet
          exact ⟨v, rfl, ho.base (b' := w.heap.size) (by have := HW3.out.size; have := HB1.out.size; simp; omega), HW3.out.trans (((Below.refl _ _).alloc HW3.out.size _).trans (hb.mono (by have := HW3.out.size; simp; omega)))⟩
        · refine sq_do_yes rfl (by rfl) (fun K hK => ?_)
          go_wp2_with fail
          refine (bytes_any k.src _).mono ?_
          rintro e W1 ⟨v, rfl, ho, b0⟩
          obtain ⟨a6, c6, rfl, y6_1, _⟩ := ho.bytes
          clear ho
          go_wp2_with fail
          refine ⟨Mod.of_below b0, ?_⟩
          have HW1 := Lib.hid (HW0.out.trans (b0.mono HW0.out.size))
          clear b0
          refine sq_end ?_
          refine any_two (n := 4) 3 9 (by kernel_rfl) ?_ ?_
          · refine sq_do_yes rfl (by rfl) (fun K hK => ?_)
            go_wp2_with fail
            obtain ⟨g3, hg3⟩ : ∃ g, g = W1.heap.size := ⟨_, rfl⟩
            have y3_2 : Bytes (W1.alloc (.cells #[.int .u8 k.proto, .int .u8 6] 5)) (some ⟨g3, 0, none⟩) 2 [k.proto, 6] := bytes_two W1 k.proto 6 k.hp (by omega) g3 hg3 5
            have b1 : Below W1.heap.size W1 (W1.alloc (.cells #[.int .u8 k.proto, .int .u8 6] 5)) := (Below.refl _ _).alloc (Nat.le_refl _) _
            have gm3 : g3 < (W1.alloc (.cells #[.int .u8 k.proto, .int .u8 6] 5)).heap.size := by rw [hg3]; simp
            rw [← hg3]
            clear hg3
            generalize W1.alloc (.cells #[.int .u8 k.proto, .int .u8 6] 5) = W2 at *
            refine ⟨Mod.of_below b1, ?_⟩
            have y6_2 := y6_1.below b1
            clear y6_1
            have HW2 := Lib.hid (HW1.out.trans (b1.mono HW1.out.size))
            clear b1
            refine sq_end ?_
            refine any_sq (n := 0) [(9, false), (10, false), (11, false), (12, true)] (by kernel_rfl) (fun _ _ d _ _ h => by cases d <;> exact h) ?_
            refine sq_do_yes rfl (by rfl) (fun K hK => ?_)
            go_wp2_with fail
            refine (bytes_any k.dst _).mono ?_
            rintro e W3 ⟨v, rfl, ho, b2⟩
            obtain ⟨a9, c9, rfl, y9_3, _⟩ := ho.bytes
            clear ho
            go_wp2_with fail
            refine ⟨Mod.of_below b2, ?_⟩
            have y6_3 := y6_2.below b2
            clear y6_2
            have y3_3 := y3_2.below b2
            clear y3_2
            have HW3 := Lib.hid (HW2.out.trans (b2.mono HW2.out.size))
            clear b2
            refine sq_do_yes rfl (by rfl) (fun K hK => ?_)
            go_wp2_with fail
            refine ⟨(Mod.refl _ _).alloc _, ?_⟩
            refine sq_do_yes rfl (by rfl) (fun K hK => ?_)
            go_wp2_with fail
            refine (concat_any W3.heap.size [(some ⟨g3, 0, none⟩, 2, [k.proto, 6]), (a6, c6, abytes k.src), (a9, c9, abytes k.dst)] _ (by simp) (pieces3 W3 g3 a6 a9 c6 c9 _ _ _ y3_3 y6_3 y9_3 183) (by simp [glue]) (by simp [glue, abytes_length]; split <;> split <;> omega) (by simp)).mono ?_
            rintro e W5 ⟨v, rfl, ho, hb⟩
            rw [glue3] at ho
            go_wp2_with fail
            refine ⟨Mod.of_below hb, ?_⟩
            repeat (first
              | (refine sq_yes rfl (by rfl) (fun w' hM => by ((try replace hM := hM.of_drew); obtain ⟨hR1, hR2, hR3⟩ := hM.rules; clear hM; go_simp; with_reducible rfl)) ?_; simp only [Act.put, List.setIfInBounds_toArray, List.set_cons_zero, List.set_cons_succ])
              | (refine sq_no rfl (by rfl) ?_; simp only [Act.put, List.setIfInBounds_toArray, List.set_cons_zero, List.set_cons_succ]))
            refine sq_end ?_
            refine any_end (by kernel_rfl) ?_
            go_wp2_with fail
            go_meet
            exact ⟨v, rfl, ho.base (b' := w.heap.size) (by have := HW3.out.size; have := HB1.out.size; simp; omega), HW3.out.trans (((Below.refl _ _).alloc HW3.out.size _).trans (hb.mono (by have := HW3.out.size; simp; omega)))⟩
          · refine sq_do_yes rfl (by rfl) (fun K hK => ?_)
            go_wp2_with fail
            refine (bytes_any k.dst _).mono ?_
            rintro e W2 ⟨v, rfl, ho, b1⟩
            obtain ⟨a9, c9, rfl, y9_2, _⟩ := ho.bytes
            clear ho
            go_wp2_with fail
            refine ⟨Mod.of_below b1, ?_⟩
            have y6_2 := y6_1.below b1
            clear y6_1
            have HW2 := Lib.hid (HW1.out.trans (b1.mono HW1.out.size))
            clear b1
            refine sq_end ?_
            refine any_sq (n := 0) [(3, false), (10, false), (11, false), (12, true)] (by kernel_rfl) (fun _ _ d _ _ h => by cases d <;> exact h) ?_
            refine sq_do_yes rfl (by rfl) (fun K hK => ?_)
            go_wp2_with fail
            obtain ⟨g3, hg3⟩ : ∃ g, g = W2.heap.size := ⟨_, rfl⟩
            have y3_3 : Bytes (W2.alloc (.cells #[.int .u8 k.proto, .int .u8 6] 5)) (some ⟨g3, 0, none⟩) 2 [k.proto, 6] := bytes_two W2 k.proto 6 k.hp (by omega) g3 hg3 5
            have b2 : Below W2.heap.size W2 (W2.alloc (.cells #[.int .u8 k.proto, .int .u8 6] 5)) := (Below.refl _ _).alloc (Nat.le_refl _) _
            have gm3 : g3 < (W2.alloc (.cells #[.int .u8 k.proto, .int .u8 6] 5)).heap.size := by rw [hg3]; simp
            rw [← hg3]
            clear hg3
            generalize W2.alloc (.cells #[.int .u8 k.proto, .int .u8 6] 5) = W3 at *
            refine ⟨Mod.of_below b2, ?_⟩
            have y6_3 := y6_2.below b2
            clear y6_2
            have y9_3 := y9_2.below b2
            clear y9_2
            have HW3 := Lib.hid (HW2.out.trans (b2.mono HW2.out.size))
            clear b2
            refine sq_do_yes rfl (by rfl) (fun K hK => ?_)
            go_wp2_with fail
            refine ⟨(Mod.refl _ _).alloc _, ?_⟩
            refine sq_do_yes rfl (by rfl) (fun K hK => ?_)
            go_wp2_with fail
            refine (concat_any W3.heap.size [(some ⟨g3, 0, none⟩, 2, [k.proto, 6]), (a6, c6, abytes k.src), (a9, c9, abytes k.dst)] _ (by simp) (pieces3 W3 g3 a6 a9 c6 c9 _ _ _ y3_3 y6_3 y9_3 183) (by simp [glue]) (by simp [glue, abytes_length]; split <;> split <;> omega) (by simp)).mono ?_
            rintro e W5 ⟨v, rfl, ho, hb⟩
            rw [glue3] at ho
            go_wp2_with fail
            refine ⟨Mod.of_below hb, ?_⟩
            repeat (first
              | (refine sq_yes rfl (by rfl) (fun w' hM => by ((try replace hM := hM.of_drew); obtain ⟨hR1, hR2, hR3⟩ := hM.rules; clear hM; go_simp; with_reducible rfl)) ?_; simp only [Act.put, List.setIfInBounds_toArray, List.set_cons_zero, List.set_cons_succ])
              | (refine sq_no rfl (by rfl) ?_; simp only [Act.put, List.setIfInBounds_toArray, List.set_cons_zero, List.set_cons_succ]))
            refine sq_end ?_
            refine any_end (by kernel_rfl) ?_
            go_wp2_with fail
            go_meet
            exact ⟨v, rfl, ho.base (b' := w.heap.size) (by have := HW3.out.size; have := HB1.out.size; simp; omega), HW3.out.trans (((Below.refl _ _).alloc HW3.out.size _).trans (hb.mono (by have := HW3.out.size; simp; omega)))⟩
      case rest =>
        obtain ⟨v, rfl, ho4, hb⟩ := hcut
        have hA := HA.out.below hb HA.out.lt
        have HB2 := Lib.hid (step_below HB1.out hb)
        obtain ⟨l4, hl4⟩ : ∃ l4, l4 = [k.proto, 6] ++ abytes k.src ++ abytes k.dst := ⟨_, rfl⟩
        rw [← hl4] at ho4
        have HL4 := Lib.hid (show [k.proto, kind k] ++ abytes k.src ++ abytes k.dst = l4 by rw [hl4, HKD.out]; rfl)
        obtain ⟨a4, n4, c4, rfl, hn4, y4, _⟩ := ho4.parts
        have hn : n4 ≤ 34 := by rw [hn4, hl4]; simp [abytes_length]; split <;> split <;> omega
        have Y4 := Lib.hid y4
        clear hn4 hl4
        clear hr ho hl c18 c0 HA hb y4 ho4
        have c35 := hA.cell 35
        have c36 := hA.cell 36
        rw [kc_35?] at c35
        rw [kc_36?] at c36
        have hl := hA.lt
        have HA := Lib.hid hA
        clear hA
        go_wp2_with fail
        refine region_sq (fun _ => False) [(0, true), (1, true), (2, true), (4, true), (5, true), (3, false), (6, false), (7, true)] (by kernel_rfl) (by kernel_rfl) (fun _ _ d _ _ h => by cases d <;> exact h) ?_
        repeat (first
          | (refine sq_yes rfl (by rfl) (fun w' hM => by ((try replace hM := hM.of_drew); obtain ⟨hR1, hR2, hR3⟩ := hM.rules; clear hM; go_simp; with_reducible rfl)) ?_; simp only [Act.put, List.setIfInBounds_toArray, List.set_cons_zero, List.set_cons_succ])
          | (refine sq_no rfl (by rfl) ?_; simp only [Act.put, List.setIfInBounds_toArray, List.set_cons_zero, List.set_cons_succ]))
        refine sq_do_yes rfl (by rfl) (fun K hK => ?_)
        go_wp2_with fail
        refine (append_any a4 n4 c4 l4 k.sp _ (bytes_drew Y4.out) (by omega) k.hs).mono ?_
        rintro e w3 ⟨v3, rfl, ho3, hb3⟩
        obtain ⟨a3, n3, c3, rfl, hn3, y3, _⟩ := ho3.parts
        have hn3' : n3 ≤ 40 := by rw [hn3, List.length_append, Y4.out.1]; simp; omega
        clear hn3
        have Y3 := Lib.hid y3
        have HB3 := Lib.hid (step_below HB2.out.drew hb3)
        clear ho3 y3
        go_wp2_with fail
        refine ⟨Mod.of_below hb3, ?_⟩
        clear hb3
        refine sq_do_yes rfl (by rfl) (fun K hK => ?_)
        go_wp2_with fail
        refine (append_any a3 n3 c3 _ k.dp _ Y3.out (by omega) k.hd).mono ?_
        rintro e w4 ⟨v4, rfl, ho4, hb4⟩
        have HO4 := Lib.hid (ho4.base HB3.out.size)
        have HB4 := Lib.hid (step_below HB3.out hb4)
        go_wp2_with fail
        refine ⟨Mod.of_below hb4, ?_⟩
        clear hb4 ho4
        repeat (first
          | (refine sq_yes rfl (by rfl) (fun w' hM => by ((try replace hM := hM.of_drew); obtain ⟨hR1, hR2, hR3⟩ := hM.rules; clear hM; go_simp; with_reducible rfl)) ?_; simp only [Act.put, List.setIfInBounds_toArray, List.set_cons_zero, List.set_cons_succ])
          | (refine sq_no rfl (by rfl) ?_; simp only [Act.put, List.setIfInBounds_toArray, List.set_cons_zero, List.set_cons_succ]))
        refine sq_end ?_
        go_wp2_with fail
        go_ret
        exact ⟨_, rfl, by rw [HK.out, HL4.out]; exact HO4.out, HB4.out⟩
end Go.Proofs.Ythfgccibiajneaa

/-
  The document's Valid and Bytes of addresses and flows.
-/
namespace Go.Proofs.Ythfgccibiajneaa
open Go.RowKit
theorem vld_false_iff (a : Adr) (h : a.v6 = false) : vld a = true ↔ ∀ j, 4 ≤ j → j < 16 → a.b.getD j 0 = 0 := by
  have hl := a.len
  unfold vld
  rw [h, Bool.false_or, beq_iff_eq]
  constructor
  · intro he j h1 h2
    have := congrArg (fun l : List Nat => l[j - 4]?) he
    simp only [List.getElem?_drop, List.getElem?_replicate, if_pos (show j - 4 < 12 by omega), show 4 + (j - 4) = j by omega] at this
    rw [List.getD_eq_getElem?_getD, this]; rfl
  · intro hh
    apply List.ext_getElem?
    intro i
    rw [List.getElem?_drop, List.getElem?_replicate]
    by_cases hi : i < 12
    · rw [if_pos hi]
      have := hh (4 + i) (by omega) (by omega)
      rw [List.getD_eq_getElem?_getD, List.getElem?_eq_getElem (by omega)] at this
      rw [List.getElem?_eq_getElem (by omega)]
      simpa using this
    · rw [if_neg hi, List.getElem?_eq_none (by omega)]
set_option maxRecDepth 100000 in
set_option maxHeartbeats 2000000 in
theorem refValid_any (a : Adr) (w : World) : Calls Try.prog 81 #[.agg (ac a)] w fun e w' => e = .returned (.bool (vld a)) ∧ w' = w.alloc (.cells (ac a) 24) := by
  have hb := fun j (h : j < 16) => ac_byte? a j h
  have HB := Lib.hid hb
  clear hb
  go_enter Try.func81, Try.ntmps81
  go_wp2_with fail
  go_loop [3] (fun j => ∃ i : Nat, 4 ≤ i ∧ i ≤ 16 ∧ j = .int .i64 i ∧ (a.v6 = false → ∀ q, 4 ≤ q → q < i → a.b.getD q 0 = 0)) (fun j => 16 - (intOf j).toNat)
  case atStart => exact ⟨4, by omega, by omega, rfl, fun _ q h1 h2 => by omega⟩
  case round =>
    obtain ⟨i, hi1, hi2, rfl, hz⟩ := hrel
    have HZ := Lib.hid hz
    clear hz
    by_cases hlt : i < 16
    · have hc := HB.out i hlt
      obtain ⟨x, hx⟩ : ∃ x, x = a.b.getD i 0 := ⟨_, rfl⟩
      rw [← hx] at hc
      have HX := Lib.hid hx
      clear hx
      cases h6 : a.v6
      · by_cases h0 : x = 0
        · subst h0
          have hc' : (ac a)[1 + i]? = some (.int .u8 0) := hc
          clear hc
          go_wp2_with fail
          go_round
          case rel => exact ⟨i + 1, by omega, by omega, by go_num, fun hf q h1 h2 => by
            by_cases hq : q = i
            · subst hq; exact HX.out.symm
            · exact HZ.out h6 q h1 (by omega)⟩
          case measure => simp [intOf]; omega
        · have hv : vld a = false := by
            rw [← Bool.not_eq_true, vld_false_iff a h6]
            intro hh
            exact h0 (by rw [HX.out]; exact hh i hi1 hlt)
          go_wp2_with fail
          go_ret
          exact ⟨rfl, rfl⟩
      · go_wp2_with fail
        go_round
        case rel => exact ⟨i + 1, by omega, by omega, by go_num, fun hf => absurd hf (by simp)⟩
        case measure => simp [intOf]; omega
    · obtain rfl : i = 16 := by omega
      have HV : Hid (vld a = true) := by
        cases h6 : a.v6
        · exact Lib.hid ((vld_false_iff a h6).2 fun j h1 h2 => HZ.out h6 j h1 h2)
        · exact Lib.hid (by unfold vld; rw [h6]; rfl)
      go_wp2_with fail
      go_ret
      exact ⟨by rw [HV.out]; rfl, rfl⟩
set_option maxRecDepth 100000 in
set_option maxHeartbeats 1000000 in
theorem refBytes_any (a : Adr) (w : World) : Calls Try.prog 124 #[.agg (ac a)] w fun e w' => ∃ v, e = .returned v ∧ OB w' w.heap.size v (abytes a) ∧ Below w.heap.size w w' := by
  cases h : a.v6
  · have H : Hid (abytes a = a.b.take 4) := Lib.hid (by unfold abytes; rw [h]; rfl)
    go_enter Try.func124, Try.ntmps124
    go_wp2_with (at_builtin; go_loud (refine wpList_appb _ rfl _ _ rfl w.heap.size _ [] rfl (OB.made _ w.heap.size (w.heap.size + 1) (by simp) (by omega)) (some ⟨w.heap.size, 1, none⟩) 4 16 (a.b.take 4) rfl ((bytes_boxed a w _ 4 rfl (by omega) _).below ((Below.refl _ _).alloc (Nat.le_refl _) _)) (by simp) (by simp; omega) ?_; intro v' w1 ho hb1 _))
    go_ret
    exact ⟨_, rfl, by rw [H.out]; exact ho, (((Below.refl _ _).alloc (Nat.le_refl _) _).alloc (by simp) _).trans hb1⟩
  · have H : Hid (abytes a = a.b.take 16) := Lib.hid (by unfold abytes; rw [h, if_pos rfl, List.take_of_length_le (i := 16) (l := a.b) (Nat.le_of_eq a.len)])
    go_enter Try.func124, Try.ntmps124
    go_wp2_with (at_builtin; go_loud (refine wpList_appb _ rfl _ _ rfl w.heap.size _ [] rfl (OB.made _ w.heap.size (w.heap.size + 1) (by simp) (by omega)) (some ⟨w.heap.size, 1, none⟩) 16 16 (a.b.take 16) rfl ((bytes_boxed a w _ 16 rfl (by omega) _).below ((Below.refl _ _).alloc (Nat.le_refl _) _)) (by simp) (by simp; omega) ?_; intro v' w1 ho hb1 _))
    go_ret
    exact ⟨_, rfl, by rw [H.out]; exact ho, (((Below.refl _ _).alloc (Nat.le_refl _) _).alloc (by simp) _).trans hb1⟩
set_option maxRecDepth 100000 in
set_option maxHeartbeats 4000000 in
theorem refKvalid_any (k : Ky) (w : World) : Calls Try.prog 19 #[.agg (kc k)] w fun e w' => e = .returned (.bool (kvld k)) ∧ Below w.heap.size w w' := by
  have HK := Lib.hid (show kvld k = ((k.proto == 6 || k.proto == 17) && vld k.src && vld k.dst && k.src.v6 == k.dst.v6) from rfl)
  have hc : (((k.proto : Int) == 6) = true ∧ (k.proto == 6 || k.proto == 17) = true) ∨ (((k.proto : Int) == 6) = false ∧ ((k.proto : Int) == 17) = true ∧ (k.proto == 6 || k.proto == 17) = true) ∨
      (((k.proto : Int) == 6) = false ∧ ((k.proto : Int) == 17) = false ∧ (k.proto == 6 || k.proto == 17) = false) := by
    simp only [beq_iff_eq, beq_eq_false_iff_ne, Bool.or_eq_true, Bool.or_eq_false_iff, ne_eq]
    omega
  rcases hc with ⟨h1, hp⟩ | ⟨h1, h2, hp⟩ | ⟨h1, h2, hp⟩
  case inr.inr =>
    rw [hp] at HK
    clear hp
    go_enter Try.func19, Try.ntmps19
    go_wp2_with fail
    go_ret
    exact ⟨by rw [HK.out]; rfl, (Below.refl _ w).alloc (Nat.le_refl _) _⟩
  all_goals
    rw [hp] at HK
    clear hp
    cases hs : vld k.src
    · rw [hs] at HK
      go_enter Try.func19, Try.ntmps19
      go_wp2_with fail
      refine (refValid_any k.src _).mono ?_
      rintro e w1 ⟨rfl, rfl⟩
      rw [hs]
      go_wp2_with fail
      go_ret
      exact ⟨by rw [HK.out]; rfl, ((Below.refl _ w).alloc (Nat.le_refl _) _).alloc (by simp) _⟩
    · rw [hs] at HK
      have HD := Lib.hid (show vld k.dst = vld k.dst from rfl)
      generalize hd : vld k.dst = z at *
      go_enter Try.func19, Try.ntmps19
      go_wp2_with fail
      refine (refValid_any k.src _).mono ?_
      rintro e w1 ⟨rfl, rfl⟩
      rw [hs]
      go_wp2_with fail
      refine (refValid_any k.dst _).mono ?_
      rintro e w1 ⟨rfl, rfl⟩
      rw [hd]
      cases z <;>
      · go_wp2_with fail
        go_ret
        exact ⟨by rw [HK.out]; rfl, (((Below.refl _ w).alloc (Nat.le_refl _) _).alloc (by simp) _).alloc (by simp; omega) _⟩
end Go.Proofs.Ythfgccibiajneaa
