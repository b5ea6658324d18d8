/-
  Texts in one, each behind those that it needs: FamKeyB, FamRef, FamRefB, FamMix.
-/
import Derived.Test.YtgjecemmejaieaaBad
import Derived.Deep.DeepCutAuto
/-
  key.Bytes and the document's.
-/
namespace Go.Proofs.Ytgjecemmejaieaa
open Go.RowKit
theorem OB.parts {w : World} {base : Nat} {v : Value} {l : List Nat} (h : OB w base v l) : ∃ a n c, v = .slice a n c ∧ n = l.length ∧ Bytes w a n l ∧ n ≤ c := by
  obtain ⟨a, c, h1, h2, h3⟩ := h.bytes
  exact ⟨a, l.length, c, h1, rfl, h2, h3⟩
def kind (k : Ky) : Nat := if k.src.v6 then 6 else 4
/-- A flow's bytes. -/
def kbytes (k : Ky) : List Nat := if kvld k then ([k.proto, kind k] ++ abytes k.src ++ abytes k.dst) ++ [k.sp / 256, k.sp % 256] ++ [k.dp / 256, k.dp % 256] else []
theorem kind_lt (k : Ky) : kind k < 256 := by unfold kind; split <;> omega
theorem bytes_two (w : World) (x y : Nat) (hx : x < 256) (hy : y < 256) (g : Nat) (hg : g = w.heap.size) (t : TypeId) : Bytes (w.alloc (.cells #[.int .u8 x, .int .u8 y] t)) (some ⟨g, 0, none⟩) 2 [x, y] := by
  subst hg
  refine ⟨rfl, fun c hc => by simp at hc; omega, fun _ => ⟨w.heap.size, 0, rfl, by simp, fun i hi => ?_⟩⟩
  rw [cell_of_row _ _ _ _ _ _ (heap_alloc_new w _), Nat.zero_add]
  match i, hi with
  | 0, _ | 1, _ => rfl
theorem bytes_drew {w : World} {a : Option Addr} {n : Nat} {l : List Nat} (h : Bytes w a n l) : Bytes w.drew a n l := h
theorem glue3 (a b c : Option Addr) (x y z : Nat) (l m n : List Nat) : glue [(a, x, l), (b, y, m), (c, z, n)] = l ++ m ++ n := by simp [glue]
theorem pieces3 (W : World) (g3 : Nat) (a6 a9 : Option Addr) (c6 c9 : Nat) (l3 l6 l9 : List Nat) (h3 : Bytes W (some ⟨g3, 0, none⟩) l3.length l3) (h6 : Bytes W a6 l6.length l6) (h9 : Bytes W a9 l9.length l9) (t : TypeId) :
    ∀ (j : Nat) (p : Piece), [(some ⟨g3, 0, none⟩, l3.length, l3), (a6, c6, l6), (a9, c9, l9)][j]? = some p →
      (W.alloc (.cells #[.slice (some ⟨g3, 0, none⟩) l3.length l3.length, .slice a6 l6.length c6, .slice a9 l9.length c9] t)).cell? ⟨W.heap.size, j, none⟩ = some p.val ∧
      Bytes (W.alloc (.cells #[.slice (some ⟨g3, 0, none⟩) l3.length l3.length, .slice a6 l6.length c6, .slice a9 l9.length c9] t)) p.1 p.2.2.length p.2.2 := by
  intro j p hp
  have hb := (Below.refl W.heap.size W).alloc (Nat.le_refl _) (.cells #[.slice (some ⟨g3, 0, none⟩) l3.length l3.length, .slice a6 l6.length c6, .slice a9 l9.length c9] t)
  rw [cell_of_row _ _ _ _ _ _ (heap_alloc_new W _)]
  match j with
  | 0 => simp at hp; subst hp; exact ⟨rfl, h3.below hb⟩
  | 1 => simp at hp; subst hp; exact ⟨rfl, h6.below hb⟩
  | 2 => simp at hp; subst hp; exact ⟨rfl, h9.below hb⟩
  | j + 3 => simp at hp
set_option maxRecDepth 100000 in
set_option maxHeartbeats 4000000 in
theorem kbytes_any (k : Ky) (w : World) : Calls Try.prog 72 #[.agg (kc k)] w fun e w' => ∃ v, e = .returned v ∧ OB w' w.heap.size v (kbytes k) ∧ Below w.heap.size w w' := by
  have HK := Lib.hid (show kbytes k = if kvld k then ([k.proto, kind k] ++ abytes k.src ++ abytes k.dst) ++ [k.sp / 256, k.sp % 256] ++ [k.dp / 256, k.dp % 256] else [] from rfl)
  cases hv : kvld k
  · rw [hv] at HK
    go_enter Try.func72, Try.ntmps72
    go_wp2_with fail
    refine (kvalid_any k _).mono ?_
    rintro e w1 ⟨rfl, hb⟩
    rw [hv]
    go_wp2_with fail
    go_ret
    exact ⟨_, rfl, by rw [HK.out]; exact OB.nil _ _, step_below ((Below.refl _ _).alloc (Nat.le_refl _) _) hb⟩
  · rw [hv, if_pos rfl] at HK
    have HKD : Hid (kind k = if k.src.v6 then 6 else 4) := Lib.hid rfl
    have hkl := kind_lt k
    cases h6 : k.src.v6
    · rw [h6] at HKD
      go_enter Try.func72, Try.ntmps72
      go_wp2_with fail
      refine (kvalid_any k _).mono ?_
      rintro e w1 ⟨rfl, hb⟩
      rw [hv]
      have hA := (At.new w 57 (kc k)).below hb (by simp)
      have HB1 := Lib.hid (step_below ((Below.refl _ w).alloc (Nat.le_refl _) _) hb)
      have hr := hA.row
      have ho := hA.open
      have hl := hA.lt
      have c18 := hA.cell 1
      have c0 := hA.cell 0
      rw [kc_1?] at c18
      rw [kc_0?] at c0
      obtain ⟨g, hg⟩ : ∃ g, g = w.heap.size := ⟨_, rfl⟩
      rw [← hg] at hr ho hl c18 c0 hA
      rw [← hg]
      have HA := Lib.hid hA
      have HG := Lib.hid hg
      clear hb hA hg
      go_upto_region 6 with fail
      go_cut [4] (fun s4 wx => ∃ v, s4 = v ∧ OB wx w.heap.size v ([k.proto, 4] ++ abytes k.src ++ abytes k.dst) ∧ Below w1.heap.size w1 wx)
      case first =>
        refine region_sq_till (fun _ => False) [(0, true), (1, true), (2, true), (4, true), (5, true), (7, true), (8, true)] 6 (by kernel_rfl) (by kernel_rfl) (fun _ _ d _ _ h => by cases d <;> exact h) ?_
        repeat (first
          | (refine sq_yes rfl (by rfl) (fun w' hM => by ((try replace hM := hM.of_drew); obtain ⟨hR1, hR2, hR3⟩ := hM.rules; clear hM; go_simp; with_reducible rfl)) ?_; simp only [Act.put, List.setIfInBounds_toArray, List.set_cons_zero, List.set_cons_succ])
          | (refine sq_no rfl (by rfl) ?_; simp only [Act.put, List.setIfInBounds_toArray, List.set_cons_zero, List.set_cons_succ]))
        refine sq_end ?_
        have HW0 := Lib.hid ((Below.refl w1.heap.size w1).drew)
        have hgd : g < w1.drew.heap.size := hl
        clear hr ho hl c18 c0 HA
        generalize w1.drew = W0 at *
        refine any_two (n := 5) 3 6 (by kernel_rfl) ?_ ?_
        · refine sq_do_yes rfl (by rfl) (fun K hK => ?_)
          go_wp2_with fail
          obtain ⟨g3, hg3⟩ : ∃ g, g = W0.heap.size := ⟨_, rfl⟩
          have y3_1 : Bytes (W0.alloc (.cells #[.int .u8 k.proto, .int .u8 4] 5)) (some ⟨g3, 0, none⟩) 2 [k.proto, 4] := bytes_two W0 k.proto 4 k.hp (by omega) g3 hg3 5
          have b0 : Below W0.heap.size W0 (W0.alloc (.cells #[.int .u8 k.proto, .int .u8 4] 5)) := (Below.refl _ _).alloc (Nat.le_refl _) _
          have gm3 : g3 < (W0.alloc (.cells #[.int .u8 k.proto, .int .u8 4] 5)).heap.size := by rw [hg3]; simp
          rw [← hg3]
          clear hg3
          generalize W0.alloc (.cells #[.int .u8 k.proto, .int .u8 4] 5) = W1 at *
          refine ⟨Mod.of_below b0, ?_⟩
          have HW1 := Lib.hid (HW0.out.trans (b0.mono HW0.out.size))
          clear b0
          refine sq_end ?_
          refine any_sq (n := 0) [(6, false), (9, false), (10, false), (11, false), (12, true)] (by kernel_rfl) (fun _ _ d _ _ h => by cases d <;> exact h) ?_
          refine sq_do_yes rfl (by rfl) (fun K hK => ?_)
          go_wp2_with fail
          refine (bytes_any k.src _).mono ?_
          rintro e W2 ⟨v, rfl, ho, b1⟩
          obtain ⟨a6, c6, rfl, y6_2, _⟩ := ho.bytes
          clear ho
          go_wp2_with fail
          refine ⟨Mod.of_below b1, ?_⟩
          have y3_2 := y3_1.below b1
          clear y3_1
          have HW2 := Lib.hid (HW1.out.trans (b1.mono HW1.out.size))
          clear b1
          refine sq_do_yes rfl (by rfl) (fun K hK => ?_)
          go_wp2_with fail
          refine (bytes_any k.dst _).mono ?_
          rintro e W3 ⟨v, rfl, ho, b2⟩
          obtain ⟨a9, c9, rfl, y9_3, _⟩ := ho.bytes
          clear ho
          go_wp2_with fail
          refine ⟨Mod.of_below b2, ?_⟩
          have y3_3 := y3_2.below b2
          clear y3_2
          have y6_3 := y6_2.below b2
          clear y6_2
          have HW3 := Lib.hid (HW2.out.trans (b2.mono HW2.out.size))
          clear b2
          refine sq_do_yes rfl (by rfl) (fun K hK => ?_)
          go_wp2_with fail
          refine ⟨(Mod.refl _ _).alloc _, ?_⟩
          refine sq_do_yes rfl (by rfl) (fun K hK => ?_)
          go_wp2_with fail
          refine (concat_any W3.heap.size [(some ⟨g3, 0, none⟩, 2, [k.proto, 4]), (a6, c6, abytes k.src), (a9, c9, abytes k.dst)] _ (by simp) (pieces3 W3 g3 a6 a9 c6 c9 _ _ _ y3_3 y6_3 y9_3 141) (by simp [glue]) (by simp [glue, abytes_length]; split <;> split <;> omega) (by simp)).mono ?_
          rintro e W5 ⟨v, rfl, ho, hb⟩
          rw [glue3] at ho
          go_wp2_with fail
          refine ⟨Mod.of_below hb, ?_⟩
          repeat (first
            | (refine sq_yes rfl (by rfl) (fun w' hM => by ((try replace hM := hM.of_drew); obtain ⟨hR1, hR2, hR3⟩ := hM.rules; clear hM; go_simp; with_reducible rfl)) ?_; simp only [Act.put, List.setIfInBounds_toArray, List.set_cons_zero, List.set_cons_succ])
            | (refine sq_no rfl (by rfl) ?_; simp only [Act.put, List.setIfInBounds_toArray, List.set_cons_zero, List.set_cons_succ]))
          refine sq_end ?_
          refine any_end (by kernel_rfl) ?_
          go_wp2_with fail
          go_meet
          exact ⟨v, rfl, ho.base (b' := w.heap.size) (by have := HW3.out.size; have := HB1.out.size; simp; omega), HW3.out.trans (((Below.refl _ _).alloc HW3.out.size _).trans (hb.mono (by have := HW3.out.size; simp; omega)))⟩
        · refine sq_do_yes rfl (by rfl) (fun K hK => ?_)
          go_wp2_with fail
          refine (bytes_any k.src _).mono ?_
          rintro e W1 ⟨v, rfl, ho, b0⟩
          obtain ⟨a6, c6, rfl, y6_1, _⟩ := ho.bytes
          clear ho
          go_wp2_with fail
          refine ⟨Mod.of_below b0, ?_⟩
          have HW1 := Lib.hid (HW0.out.trans (b0.mono HW0.out.size))
          clear b0
          refine sq_end ?_
          refine any_two (n := 4) 3 9 (by kernel_rfl) ?_ ?_
          · refine sq_do_yes rfl (by rfl) (fun K hK => ?_)
            go_wp2_with fail
            obtain ⟨g3, hg3⟩ : ∃ g, g = W1.heap.size := ⟨_, rfl⟩
            have y3_2 : Bytes (W1.alloc (.cells #[.int .u8 k.proto, .int .u8 4] 5)) (some ⟨g3, 0, none⟩) 2 [k.proto, 4] := bytes_two W1 k.proto 4 k.hp (by omega) g3 hg3 5
            have b1 : Below W1.heap.size W1 (W1.alloc (.cells #[.int .u8 k.proto, .int .u8 4] 5)) := (Below.refl _ _).alloc (Nat.le_refl _) _
            have gm3 : g3 < (W1.alloc (.cells #[.int .u8 k.proto, .int .u8 4] 5)).heap.size := by rw [hg3]; simp
            rw [← hg3]
            clear hg3
            generalize W1.alloc (.cells #[.int .u8 k.proto, .int .u8 4] 5) = W2 at *
            refine ⟨Mod.of_below b1, ?_⟩
            have y6_2 := y6_1.below b1
            clear y6_1
            have HW2 := Lib.hid (HW1.out.trans (b1.mono HW1.out.size))
            clear b1
            refine sq_end ?_
            refine any_sq (n := 0) [(9, false), (10, false), (11, false), (12, true)] (by kernel_rfl) (fun _ _ d _ _ h => by cases d <;> exact h) ?_
            refine sq_do_yes rfl (by rfl) (fun K hK => ?_)
            go_wp2_with fail
            refine (bytes_any k.dst _).mono ?_
            rintro e W3 ⟨v, rfl, ho, b2⟩
            obtain ⟨a9, c9, rfl, y9_3, _⟩ := ho.bytes
            clear ho
            go_wp2_with fail
            refine ⟨Mod.of_below b2, ?_⟩
            have y6_3 := y6_2.below b2
            clear y6_2
            have y3_3 := y3_2.below b2
            clear y3_2
            have HW3 := Lib.hid (HW2.out.trans (b2.mono HW2.out.size))
            clear b2
            refine sq_do_yes rfl (by rfl) (fun K hK => ?_)
            go_wp2_with fail
            refine ⟨(Mod.refl _ _).alloc _, ?_⟩
            refine sq_do_yes rfl (by rfl) (fun K hK => ?_)
            go_wp2_with fail
            refine (concat_any W3.heap.size [(some ⟨g3, 0, none⟩, 2, [k.proto, 4]), (a6, c6, abytes k.src), (a9, c9, abytes k.dst)] _ (by simp) (pieces3 W3 g3 a6 a9 c6 c9 _ _ _ y3_3 y6_3 y9_3 141) (by simp [glue]) (by simp [glue, abytes_length]; split <;> split <;> omega) (by simp)).mono ?_
            rintro e W5 ⟨v, rfl, ho, hb⟩
            rw [glue3] at ho
            go_wp2_with fail
            refine ⟨Mod.of_below hb, ?_⟩
            repeat (first
              | (refine sq_yes rfl (by rfl) (fun w' hM => by ((try replace hM := hM.of_drew); obtain ⟨hR1, hR2, hR3⟩ := hM.rules; clear hM; go_simp; with_reducible rfl)) ?_; simp only [Act.put, List.setIfInBounds_toArray, List.set_cons_zero, List.set_cons_succ])
              | (refine sq_no rfl (by rfl) ?_; simp only [Act.put, List.setIfInBounds_toArray, List.set_cons_zero, List.set_cons_succ]))
            refine sq_end ?_
            refine any_end (by kernel_rfl) ?_
            go_wp2_with fail
            go_meet
            exact ⟨v, rfl, ho.base (b' := w.heap.size) (by have := HW3.out.size; have := HB1.out.size; simp; omega), HW3.out.trans (((Below.refl _ _).alloc HW3.out.size _).trans (hb.mono (by have := HW3.out.size; simp; omega)))⟩
          · refine sq_do_yes rfl (by rfl) (fun K hK => ?_)
            go_wp2_with fail
            refine (bytes_any k.dst _).mono ?_
            rintro e W2 ⟨v, rfl, ho, b1⟩
            obtain ⟨a9, c9, rfl, y9_2, _⟩ := ho.bytes
            clear ho
            go_wp2_with fail
            refine ⟨Mod.of_below b1, ?_⟩
            have y6_2 := y6_1.below b1
            clear y6_1
            have HW2 := Lib.hid (HW1.out.trans (b1.mono HW1.out.size))
            clear b1
            refine sq_end ?_
            refine any_sq (n := 0) [(3, false), (10, false), (11, false), (12, true)] (by kernel_rfl) (fun _ _ d _ _ h => by cases d <;> exact h) ?_
            refine sq_do_yes rfl (by rfl) (fun K hK => ?_)
            go_wp2_with fail
            obtain ⟨g3, hg3⟩ : ∃ g, g = W2.heap.size := ⟨_, rfl⟩
            have y3_3 : Bytes (W2.alloc (.cells #[.int .u8 k.proto, .int .u8 4] 5)) (some ⟨g3, 0, none⟩) 2 [k.proto, 4] := bytes_two W2 k.proto 4 k.hp (by omega) g3 hg3 5
            have b2 : Below W2.heap.size W2 (W2.alloc (.cells #[.int .u8 k.proto, .int .u8 4] 5)) := (Below.refl _ _).alloc (Nat.le_refl _) _
            have gm3 : g3 < (W2.alloc (.cells #[.int .u8 k.proto, .int .u8 4] 5)).heap.size := by rw [hg3]; simp
            rw [← hg3]
            clear hg3
            generalize W2.alloc (.cells #[.int .u8 k.proto, .int .u8 4] 5) = W3 at *
            refine ⟨Mod.of_below b2, ?_⟩
            have y6_3 := y6_2.below b2
            clear y6_2
            have y9_3 := y9_2.below b2
            clear y9_2
            have HW3 := Lib.hid (HW2.out.trans (b2.mono HW2.out.size))
            clear b2
            refine sq_do_yes rfl (by rfl) (fun K hK => ?_)
            go_wp2_with fail
            refine ⟨(Mod.refl _ _).alloc _, ?_⟩
            refine sq_do_yes rfl (by rfl) (fun K hK => ?_)
            go_wp2_with fail
            refine (concat_any W3.heap.size [(some ⟨g3, 0, none⟩, 2, [k.proto, 4]), (a6, c6, abytes k.src), (a9, c9, abytes k.dst)] _ (by simp) (pieces3 W3 g3 a6 a9 c6 c9 _ _ _ y3_3 y6_3 y9_3 141) (by simp [glue]) (by simp [glue, abytes_length]; split <;> split <;> omega) (by simp)).mono ?_
            rintro e W5 ⟨v, rfl, ho, hb⟩
            rw [glue3] at ho
            go_wp2_with fail
            refine ⟨Mod.of_below hb, ?_⟩
            repeat (first
              | (refine sq_yes rfl (by rfl) (fun w' hM => by ((try replace hM := hM.of_drew); obtain ⟨hR1, hR2, hR3⟩ := hM.rules; clear hM; go_simp; with_reducible rfl)) ?_; simp only [Act.put, List.setIfInBounds_toArray, List.set_cons_zero, List.set_cons_succ])
              | (refine sq_no rfl (by rfl) ?_; simp only [Act.put, List.setIfInBounds_toArray, List.set_cons_zero, List.set_cons_succ]))
            refine sq_end ?_
            refine any_end (by kernel_rfl) ?_
            go_wp2_with fail
            go_meet
            exact ⟨v, rfl, ho.base (b' := w.heap.size) (by have := HW3.out.size; have := HB1.out.size; simp; omega), HW3.out.trans (((Below.refl _ _).alloc HW3.out.size _).trans (hb.mono (by have := HW3.out.size; simp; omega)))⟩
      case rest =>
        obtain ⟨v, rfl, ho4, hb⟩ := hcut
        have hA := HA.out.below hb HA.out.lt
        have HB2 := Lib.hid (step_below HB1.out hb)
        obtain ⟨l4, hl4⟩ : ∃ l4, l4 = [k.proto, 4] ++ abytes k.src ++ abytes k.dst := ⟨_, rfl⟩
        rw [← hl4] at ho4
        have HL4 := Lib.hid (show [k.proto, kind k] ++ abytes k.src ++ abytes k.dst = l4 by rw [hl4, HKD.out]; rfl)
        obtain ⟨a4, n4, c4, rfl, hn4, y4, _⟩ := ho4.parts
        have hn : n4 ≤ 34 := by rw [hn4, hl4]; simp [abytes_length]; split <;> split <;> omega
        have Y4 := Lib.hid y4
        clear hn4 hl4
        clear hr ho hl c18 c0 HA hb y4 ho4
        have c35 := hA.cell 35
        have c36 := hA.cell 36
        rw [kc_35?] at c35
        rw [kc_36?] at c36
        have hl := hA.lt
        have HA := Lib.hid hA
        clear hA
        go_wp2_with fail
        refine region_sq (fun _ => False) [(0, true), (1, true), (2, true), (4, true), (5, true), (3, false), (6, false), (7, true)] (by kernel_rfl) (by kernel_rfl) (fun _ _ d _ _ h => by cases d <;> exact h) ?_
        repeat (first
          | (refine sq_yes rfl (by rfl) (fun w' hM => by ((try replace hM := hM.of_drew); obtain ⟨hR1, hR2, hR3⟩ := hM.rules; clear hM; go_simp; with_reducible rfl)) ?_; simp only [Act.put, List.setIfInBounds_toArray, List.set_cons_zero, List.set_cons_succ])
          | (refine sq_no rfl (by rfl) ?_; simp only [Act.put, List.setIfInBounds_toArray, List.set_cons_zero, List.set_cons_succ]))
        refine sq_do_yes rfl (by rfl) (fun K hK => ?_)
        go_wp2_with fail
        refine (append_any a4 n4 c4 l4 k.sp _ (bytes_drew Y4.out) (by omega) k.hs).mono ?_
        rintro e w3 ⟨v3, rfl, ho3, hb3⟩
        obtain ⟨a3, n3, c3, rfl, hn3, y3, _⟩ := ho3.parts
        have hn3' : n3 ≤ 40 := by rw [hn3, List.length_append, Y4.out.1]; simp; omega
        clear hn3
        have Y3 := Lib.hid y3
        have HB3 := Lib.hid (step_below HB2.out.drew hb3)
        clear ho3 y3
        go_wp2_with fail
        refine ⟨Mod.of_below hb3, ?_⟩
        clear hb3
        refine sq_do_yes rfl (by rfl) (fun K hK => ?_)
        go_wp2_with fail
        refine (append_any a3 n3 c3 _ k.dp _ Y3.out (by omega) k.hd).mono ?_
        rintro e w4 ⟨v4, rfl, ho4, hb4⟩
        have HO4 := Lib.hid (ho4.base HB3.out.size)
        have HB4 := Lib.hid (step_below HB3.out hb4)
        go_wp2_with fail
        refine ⟨Mod.of_below hb4, ?_⟩
        clear hb4 ho4
        repeat (first
          | (refine sq_yes rfl (by rfl) (fun w' hM => by ((try replace hM := hM.of_drew); obtain ⟨hR1, hR2, hR3⟩ := hM.rules; clear hM; go_simp; with_reducible rfl)) ?_; simp only [Act.put, List.setIfInBounds_toArray, List.set_cons_zero, List.set_cons_succ])
          | (refine sq_no rfl (by rfl) ?_; simp only [Act.put, List.setIfInBounds_toArray, List.set_cons_zero, List.set_cons_succ]))
        refine sq_end ?_
        go_wp2_with fail
        go_ret
        exact ⟨_, rfl, by rw [HK.out, HL4.out]; exact HO4.out, HB4.out⟩
    · rw [h6] at HKD
      go_enter Try.func72, Try.ntmps72
      go_wp2_with fail
      refine (kvalid_any k _).mono ?_
      rintro e w1 ⟨rfl, hb⟩
      rw [hv]
      have hA := (At.new w 57 (kc k)).below hb (by simp)
      have HB1 := Lib.hid (step_below ((Below.refl _ w).alloc (Nat.le_refl _) _) hb)
      have hr := hA.row
      have ho := hA.open
      have hl := hA.lt
      have c18 := hA.cell 1
      have c0 := hA.cell 0
      rw [kc_1?] at c18
      rw [kc_0?] at c0
      obtain ⟨g, hg⟩ : ∃ g, g = w.heap.size := ⟨_, rfl⟩
      rw [← hg] at hr ho hl c18 c0 hA
      rw [← hg]
      have HA := Lib.hid hA
      have HG := Lib.hid hg
      clear hb hA hg
      go_upto_region 6 with fail
      go_cut [4] (fun s4 wx => ∃ v, s4 = v ∧ OB wx w.heap.size v ([k.proto, 6] ++ abytes k.src ++ abytes k.dst) ∧ Below w1.heap.size w1 wx)
      case first =>
        refine region_sq_till (fun _ => False) [(0, true), (1, true), (2, true), (4, true), (5, true), (7, true), (8, true)] 6 (by kernel_rfl) (by kernel_rfl) (fun _ _ d _ _ h => by cases d <;> exact h) ?_
        repeat (first
          | (refine sq_yes rfl (by rfl) (fun w' hM => by ((try replace hM := hM.of_drew); obtain ⟨hR1, hR2, hR3⟩ := hM.rules; clear hM; go_simp; with_reducible rfl)) ?_; simp only [Act.put, List.setIfInBounds_toArray, List.set_cons_zero, List.set_cons_succ])
          | (refine sq_no rfl (by rfl) ?_; simp only [Act.put, List.setIfInBounds_toArray, List.set_cons_zero, List.set_cons_succ]))
        refine sq_end ?_
        have HW0 := Lib.hid ((Below.refl w1.heap.size w1).drew)
        have hgd : g < w1.drew.heap.size := hl
        clear hr ho hl c18 c0 HA
        generalize w1.drew = W0 at *
        refine any_two (n := 5) 3 6 (by kernel_rfl) ?_ ?_
        · refine sq_do_yes rfl (by rfl) (fun K hK => ?_)
          go_wp2_with fail
          obtain ⟨g3, hg3⟩ : ∃ g, g = W0.heap.size := ⟨_, rfl⟩
          have y3_1 : Bytes (W0.alloc (.cells #[.int .u8 k.proto, .int .u8 6] 5)) (some ⟨g3, 0, none⟩) 2 [k.proto, 6] := bytes_two W0 k.proto 6 k.hp (by omega) g3 hg3 5
          have b0 : Below W0.heap.size W0 (W0.alloc (.cells #[.int .u8 k.proto, .int .u8 6] 5)) := (Below.refl _ _).alloc (Nat.le_refl _) _
          have gm3 : g3 < (W0.alloc (.cells #[.int .u8 k.proto, .int .u8 6] 5)).heap.size := by rw [hg3]; simp
          rw [← hg3]
          clear hg3
          generalize W0.alloc (.cells #[.int .u8 k.proto, .int .u8 6] 5) = W1 at *
          refine ⟨Mod.of_below b0, ?_⟩
          have HW1 := Lib.hid (HW0.out.trans (b0.mono HW0.out.size))
          clear b0
          refine sq_end ?_
          refine any_sq (n := 0) [(6, false), (9, false), (10, false), (11, false), (12, true)] (by kernel_rfl) (fun _ _ d _ _ h => by cases d <;> exact h) ?_
          refine sq_do_yes rfl (by rfl) (fun K hK => ?_)
          go_wp2_with fail
          refine (bytes_any k.src _).mono ?_
          rintro e W2 ⟨v, rfl, ho, b1⟩
          obtain ⟨a6, c6, rfl, y6_2, _⟩ := ho.bytes
          clear ho
          go_wp2_with fail
          refine ⟨Mod.of_below b1, ?_⟩
          have y3_2 := y3_1.below b1
          clear y3_1
          have HW2 := Lib.hid (HW1.out.trans (b1.mono HW1.out.size))
          clear b1
          refine sq_do_yes rfl (by rfl) (fun K hK => ?_)
          go_wp2_with fail
          refine (bytes_any k.dst _).mono ?_
          rintro e W3 ⟨v, rfl, ho, b2⟩
          obtain ⟨a9, c9, rfl, y9_3, _⟩ := ho.bytes
          clear ho
          go_wp2_with fail
          refine ⟨Mod.of_below b2, ?_⟩
          have y3_3 := y3_2.below b2
          clear y3_2
          have y6_3 := y6_2.below b2
          clear y6_2
          have HW3 := Lib.hid (HW2.out.trans (b2.mono HW2.out.size))
          clear b2
          refine sq_do_yes rfl (by rfl) (fun K hK => ?_)
          go_wp2_with fail
          refine ⟨(Mod.refl _ _).alloc _, ?_⟩
          refine sq_do_yes rfl (by rfl) (fun K hK => ?_)
          go_wp2_with fail
          refine (concat_any W3.heap.size [(some ⟨g3, 0, none⟩, 2, [k.proto, 6]), (a6, c6, abytes k.src), (a9, c9, abytes k.dst)] _ (by simp) (pieces3 W3 g3 a6 a9 c6 c9 _ _ _ y3_3 y6_3 y9_3 141) (by simp [glue]) (by simp [glue, abytes_length]; split <;> split <;> omega) (by simp)).mono ?_
          rintro e W5 ⟨v, rfl, ho, hb⟩
          rw [glue3] at ho
          go_wp2_with fail
          refine ⟨Mod.of_below hb, ?_⟩
          repeat (first
            | (refine sq_yes rfl (by rfl) (fun w' hM => by ((try replace hM := hM.of_drew); obtain ⟨hR1, hR2, hR3⟩ := hM.rules; clear hM; go_simp; with_reducible rfl)) ?_; simp only [Act.put, List.setIfInBounds_toArray, List.set_cons_zero, List.set_cons_succ])
            | (refine sq_no rfl (by rfl) ?_; simp only [Act.put, List.setIfInBounds_toArray, List.set_cons_zero, List.set_cons_succ]))
          refine sq_end ?_
          refine any_end (by kernel_rfl) ?_
          go_wp2_with fail
          go_meet
          exact ⟨v, rfl, ho.base (b' := w.heap.size) (by have := HW3.out.size; have := HB1.out.size; simp; omega), HW3.out.trans (((Below.refl _ _).alloc HW3.out.size _).trans (hb.mono (by have := HW3.out.size; simp; omega)))⟩
        · refine sq_do_yes rfl (by rfl) (fun K hK => ?_)
          go_wp2_with fail
          refine (bytes_any k.src _).mono ?_
          rintro e W1 ⟨v, rfl, ho, b0⟩
          obtain ⟨a6, c6, rfl, y6_1, _⟩ := ho.bytes
          clear ho
          go_wp2_with fail
          refine ⟨Mod.of_below b0, ?_⟩
          have HW1 := Lib.hid (HW0.out.trans (b0.mono HW0.out.size))
          clear b0
          refine sq_end ?_
          refine any_two (n := 4) 3 9 (by kernel_rfl) ?_ ?_
          · refine sq_do_yes rfl (by rfl) (fun K hK => ?_)
            go_wp2_with fail
            obtain ⟨g3, hg3⟩ : ∃ g, g = W1.heap.size := ⟨_, rfl⟩
            have y3_2 : Bytes (W1.alloc (.cells #[.int .u8 k.proto, .int .u8 6] 5)) (some ⟨g3, 0, none⟩) 2 [k.proto, 6] := bytes_two W1 k.proto 6 k.hp (by omega) g3 hg3 5
            have b1 : Below W1.heap.size W1 (W1.alloc (.cells #[.int .u8 k.proto, .int .u8 6] 5)) := (Below.refl _ _).alloc (Nat.le_refl _) _
            have gm3 : g3 < (W1.alloc (.cells #[.int .u8 k.proto, .int .u8 6] 5)).heap.size := by rw [hg3]; simp
            rw [← hg3]
            clear hg3
            generalize W1.alloc (.cells #[.int .u8 k.proto, .int .u8 6] 5) = W2 at *
            refine ⟨Mod.of_below b1, ?_⟩
            have y6_2 := y6_1.below b1
            clear y6_1
            have HW2 := Lib.hid (HW1.out.trans (b1.mono HW1.out.size))
            clear b1
            refine sq_end ?_
            refine any_sq (n := 0) [(9, false), (10, false), (11, false), (12, true)] (by kernel_rfl) (fun _ _ d _ _ h => by cases d <;> exact h) ?_
            refine sq_do_yes rfl (by rfl) (fun K hK => ?_)
            go_wp2_with fail
            refine (bytes_any k.dst _).mono ?_
            rintro e W3 ⟨v, rfl, ho, b2⟩
            obtain ⟨a9, c9, rfl, y9_3, _⟩ := ho.bytes
            clear ho
            go_wp2_with fail
            refine ⟨Mod.of_below b2, ?_⟩
            have y6_3 := y6_2.below b2
            clear y6_2
            have y3_3 := y3_2.below b2
            clear y3_2
            have HW3 := Lib.hid (HW2.out.trans (b2.mono HW2.out.size))
            clear b2
            refine sq_do_yes rfl (by rfl) (fun K hK => ?_)
            go_wp2_with fail
            refine ⟨(Mod.refl _ _).alloc _, ?_⟩
            refine sq_do_yes rfl (by rfl) (fun K hK => ?_)
            go_wp2_with fail
            refine (concat_any W3.heap.size [(some ⟨g3, 0, none⟩, 2, [k.proto, 6]), (a6, c6, abytes k.src), (a9, c9, abytes k.dst)] _ (by simp) (pieces3 W3 g3 a6 a9 c6 c9 _ _ _ y3_3 y6_3 y9_3 141) (by simp [glue]) (by simp [glue, abytes_length]; split <;> split <;> omega) (by simp)).mono ?_
            rintro e W5 ⟨v, rfl, ho, hb⟩
            rw [glue3] at ho
            go_wp2_with fail
            refine ⟨Mod.of_below hb, ?_⟩
            repeat (first
              | (refine sq_yes rfl (by rfl) (fun w' hM => by ((try replace hM := hM.of_drew); obtain ⟨hR1, hR2, hR3⟩ := hM.rules; clear hM; go_simp; with_reducible rfl)) ?_; simp only [Act.put, List.setIfInBounds_toArray, List.set_cons_zero, List.set_cons_succ])
              | (refine sq_no rfl (by rfl) ?_; simp only [Act.put, List.setIfInBounds_toArray, List.set_cons_zero, List.set_cons_succ]))
            refine sq_end ?_
            refine any_end (by kernel_rfl) ?_
            go_wp2_with fail
            go_meet
            exact ⟨v, rfl, ho.base (b' := w.heap.size) (by have := HW3.out.size; have := HB1.out.size; simp; omega), HW3.out.trans (((Below.refl _ _).alloc HW3.out.size _).trans (hb.mono (by have := HW3.out.size; simp; omega)))⟩
          · refine sq_do_yes rfl (by rfl) (fun K hK => ?_)
            go_wp2_with fail
            refine (bytes_any k.dst _).mono ?_
            rintro e W2 ⟨v, rfl, ho, b1⟩
            obtain ⟨a9, c9, rfl, y9_2, _⟩ := ho.bytes
            clear ho
            go_wp2_with fail
            refine ⟨Mod.of_below b1, ?_⟩
            have y6_2 := y6_1.below b1
            clear y6_1
            have HW2 := Lib.hid (HW1.out.trans (b1.mono HW1.out.size))
            clear b1
            refine sq_end ?_
            refine any_sq (n := 0) [(3, false), (10, false), (11, false), (12, true)] (by kernel_rfl) (fun _ _ d _ _ h => by cases d <;> exact h) ?_
            refine sq_do_yes rfl (by rfl) (fun K hK => ?_)
            go_wp2_with fail
            obtain ⟨g3, hg3⟩ : ∃ g, g = W2.heap.size := ⟨_, rfl⟩
            have y3_3 : Bytes (W2.alloc (.cells #[.int .u8 k.proto, .int .u8 6] 5)) (some ⟨g3, 0, none⟩) 2 [k.proto, 6] := bytes_two W2 k.proto 6 k.hp (by omega) g3 hg3 5
            have b2 : Below W2.heap.size W2 (W2.alloc (.cells #[.int .u8 k.proto, .int .u8 6] 5)) := (Below.refl _ _).alloc (Nat.le_refl _) _
            have gm3 : g3 < (W2.alloc (.cells #[.int .u8 k.proto, .int .u8 6] 5)).heap.size := by rw [hg3]; simp
            rw [← hg3]
            clear hg3
            generalize W2.alloc (.cells #[.int .u8 k.proto, .int .u8 6] 5) = W3 at *
            refine ⟨Mod.of_below b2, ?_⟩
            have y6_3 := y6_2.below b2
            clear y6_2
            have y9_3 := y9_2.below b2
            clear y9_2
            have HW3 := Lib.hid (HW2.out.trans (b2.mono HW2.out.size))
            clear b2
            refine sq_do_yes rfl (by rfl) (fun K hK => ?_)
            go_wp2_with fail
            refine ⟨(Mod.refl _ _).alloc _, ?_⟩
            refine sq_do_yes rfl (by rfl) (fun K hK => ?_)
            go_wp2_with fail
            refine (concat_any W3.heap.size [(some ⟨g3, 0, none⟩, 2, [k.proto, 6]), (a6, c6, abytes k.src), (a9, c9, abytes k.dst)] _ (by simp) (pieces3 W3 g3 a6 a9 c6 c9 _ _ _ y3_3 y6_3 y9_3 141) (by simp [glue]) (by simp [glue, abytes_length]; split <;> split <;> omega) (by simp)).mono ?_
            rintro e W5 ⟨v, rfl, ho, hb⟩
            rw [glue3] at ho
            go_wp2_with fail
            refine ⟨Mod.of_below hb, ?_⟩
            repeat (first
              | (refine sq_yes rfl (by rfl) (fun w' hM => by ((try replace hM := hM.of_drew); obtain ⟨hR1, hR2, hR3⟩ := hM.rules; clear hM; go_simp; with_reducible rfl)) ?_; simp only [Act.put, List.setIfInBounds_toArray, List.set_cons_zero, List.set_cons_succ])
              | (refine sq_no rfl (by rfl) ?_; simp only [Act.put, List.setIfInBounds_toArray, List.set_cons_zero, List.set_cons_succ]))
            refine sq_end ?_
            refine any_end (by kernel_rfl) ?_
            go_wp2_with fail
            go_meet
            exact ⟨v, rfl, ho.base (b' := w.heap.size) (by have := HW3.out.size; have := HB1.out.size; simp; omega), HW3.out.trans (((Below.refl _ _).alloc HW3.out.size _).trans (hb.mono (by have := HW3.out.size; simp; omega)))⟩
      case rest =>
        obtain ⟨v, rfl, ho4, hb⟩ := hcut
        have hA := HA.out.below hb HA.out.lt
        have HB2 := Lib.hid (step_below HB1.out hb)
        obtain ⟨l4, hl4⟩ : ∃ l4, l4 = [k.proto, 6] ++ abytes k.src ++ abytes k.dst := ⟨_, rfl⟩
        rw [← hl4] at ho4
        have HL4 := Lib.hid (show [k.proto, kind k] ++ abytes k.src ++ abytes k.dst = l4 by rw [hl4, HKD.out]; rfl)
        obtain ⟨a4, n4, c4, rfl, hn4, y4, _⟩ := ho4.parts
        have hn : n4 ≤ 34 := by rw [hn4, hl4]; simp [abytes_length]; split <;> split <;> omega
        have Y4 := Lib.hid y4
        clear hn4 hl4
        clear hr ho hl c18 c0 HA hb y4 ho4
        have c35 := hA.cell 35
        have c36 := hA.cell 36
        rw [kc_35?] at c35
        rw [kc_36?] at c36
        have hl := hA.lt
        have HA := Lib.hid hA
        clear hA
        go_wp2_with fail
        refine region_sq (fun _ => False) [(0, true), (1, true), (2, true), (4, true), (5, true), (3, false), (6, false), (7, true)] (by kernel_rfl) (by kernel_rfl) (fun _ _ d _ _ h => by cases d <;> exact h) ?_
        repeat (first
          | (refine sq_yes rfl (by rfl) (fun w' hM => by ((try replace hM := hM.of_drew); obtain ⟨hR1, hR2, hR3⟩ := hM.rules; clear hM; go_simp; with_reducible rfl)) ?_; simp only [Act.put, List.setIfInBounds_toArray, List.set_cons_zero, List.set_cons_succ])
          | (refine sq_no rfl (by rfl) ?_; simp only [Act.put, List.setIfInBounds_toArray, List.set_cons_zero, List.set_cons_succ]))
        refine sq_do_yes rfl (by rfl) (fun K hK => ?_)
        go_wp2_with fail
        refine (append_any a4 n4 c4 l4 k.sp _ (bytes_drew Y4.out) (by omega) k.hs).mono ?_
        rintro e w3 ⟨v3, rfl, ho3, hb3⟩
        obtain ⟨a3, n3, c3, rfl, hn3, y3, _⟩ := ho3.parts
        have hn3' : n3 ≤ 40 := by rw [hn3, List.length_append, Y4.out.1]; simp; omega
        clear hn3
        have Y3 := Lib.hid y3
        have HB3 := Lib.hid (step_below HB2.out.drew hb3)
        clear ho3 y3
        go_wp2_with fail
        refine ⟨Mod.of_below hb3, ?_⟩
        clear hb3
        refine sq_do_yes rfl (by rfl) (fun K hK => ?_)
        go_wp2_with fail
        refine (append_any a3 n3 c3 _ k.dp _ Y3.out (by omega) k.hd).mono ?_
        rintro e w4 ⟨v4, rfl, ho4, hb4⟩
        have HO4 := Lib.hid (ho4.base HB3.out.size)
        have HB4 := Lib.hid (step_below HB3.out hb4)
        go_wp2_with fail
        refine ⟨Mod.of_below hb4, ?_⟩
        clear hb4 ho4
        repeat (first
          | (refine sq_yes rfl (by rfl) (fun w' hM => by ((try replace hM := hM.of_drew); obtain ⟨hR1, hR2, hR3⟩ := hM.rules; clear hM; go_simp; with_reducible rfl)) ?_; simp only [Act.put, List.setIfInBounds_toArray, List.set_cons_zero, List.set_cons_succ])
          | (refine sq_no rfl (by rfl) ?_; simp only [Act.put, List.setIfInBounds_toArray, List.set_cons_zero, List.set_cons_succ]))
        refine sq_end ?_
        go_wp2_with fail
        go_ret
        exact ⟨_, rfl, by rw [HK.out, HL4.out]; exact HO4.out, HB4.out⟩
end Go.Proofs.Ytgjecemmejaieaa

/-
  The document's Valid and Bytes of addresses and flows.
-/
namespace Go.Proofs.Ytgjecemmejaieaa
open Go.RowKit
theorem vld_false_iff (a : Adr) (h : a.v6 = false) : vld a = true ↔ ∀ j, 4 ≤ j → j < 16 → a.b.getD j 0 = 0 := by
  have hl := a.len
  unfold vld
  rw [h, Bool.false_or, beq_iff_eq]
  constructor
  · intro he j h1 h2
    have := congrArg (fun l : List Nat => l[j - 4]?) he
    simp only [List.getElem?_drop, List.getElem?_replicate, if_pos (show j - 4 < 12 by omega), show 4 + (j - 4) = j by omega] at this
    rw [List.getD_eq_getElem?_getD, this]; rfl
  · intro hh
    apply List.ext_getElem?
    intro i
    rw [List.getElem?_drop, List.getElem?_replicate]
    by_cases hi : i < 12
    · rw [if_pos hi]
      have := hh (4 + i) (by omega) (by omega)
      rw [List.getD_eq_getElem?_getD, List.getElem?_eq_getElem (by omega)] at this
      rw [List.getElem?_eq_getElem (by omega)]
      simpa using this
    · rw [if_neg hi, List.getElem?_eq_none (by omega)]
set_option maxRecDepth 100000 in
set_option maxHeartbeats 2000000 in
theorem refValid_any (a : Adr) (w : World) : Calls Try.prog 61 #[.agg (ac a)] w fun e w' => e = .returned (.bool (vld a)) ∧ w' = w.alloc (.cells (ac a) 30) := by
  have hb := fun j (h : j < 16) => ac_byte? a j h
  have HB := Lib.hid hb
  clear hb
  go_enter Try.func61, Try.ntmps61
  go_wp2_with fail
  go_loop [3] (fun j => ∃ i : Nat, 4 ≤ i ∧ i ≤ 16 ∧ j = .int .i64 i ∧ (a.v6 = false → ∀ q, 4 ≤ q → q < i → a.b.getD q 0 = 0)) (fun j => 16 - (intOf j).toNat)
  case atStart => exact ⟨4, by omega, by omega, rfl, fun _ q h1 h2 => by omega⟩
  case round =>
    obtain ⟨i, hi1, hi2, rfl, hz⟩ := hrel
    have HZ := Lib.hid hz
    clear hz
    by_cases hlt : i < 16
    · have hc := HB.out i hlt
      obtain ⟨x, hx⟩ : ∃ x, x = a.b.getD i 0 := ⟨_, rfl⟩
      rw [← hx] at hc
      have HX := Lib.hid hx
      clear hx
      cases h6 : a.v6
      · by_cases h0 : x = 0
        · subst h0
          have hc' : (ac a)[1 + i]? = some (.int .u8 0) := hc
          clear hc
          go_wp2_with fail
          go_round
          case rel => exact ⟨i + 1, by omega, by omega, by go_num, fun hf q h1 h2 => by
            by_cases hq : q = i
            · subst hq; exact HX.out.symm
            · exact HZ.out h6 q h1 (by omega)⟩
          case measure => simp [intOf]; omega
        · have hv : vld a = false := by
            rw [← Bool.not_eq_true, vld_false_iff a h6]
            intro hh
            exact h0 (by rw [HX.out]; exact hh i hi1 hlt)
          go_wp2_with fail
          go_ret
          exact ⟨rfl, rfl⟩
      · go_wp2_with fail
        go_round
        case rel => exact ⟨i + 1, by omega, by omega, by go_num, fun hf => absurd hf (by simp)⟩
        case measure => simp [intOf]; omega
    · obtain rfl : i = 16 := by omega
      have HV : Hid (vld a = true) := by
        cases h6 : a.v6
        · exact Lib.hid ((vld_false_iff a h6).2 fun j h1 h2 => HZ.out h6 j h1 h2)
        · exact Lib.hid (by unfold vld; rw [h6]; rfl)
      go_wp2_with fail
      go_ret
      exact ⟨by rw [HV.out]; rfl, rfl⟩
end Go.Proofs.Ytgjecemmejaieaa

/-
  The document's Bytes of a flow.
-/
namespace Go.Proofs.Ytgjecemmejaieaa
open Go.RowKit
theorem OB.two (w : World) (x y : Nat) (hx : x < 256) (hy : y < 256) (g : Nat) (hg : g = w.heap.size) : OB (w.alloc (.cells #[.int .u8 x, .int .u8 y] 5)) g (.slice (some ⟨g, 0, none⟩) 2 2) [x, y] := by
  subst hg
  exact ⟨⟨rfl, .inr ⟨w.heap.size, 2, _, rfl, Nat.le_refl _, heap_alloc_new w _, Nat.le_refl _, by unfold maxLen; omega, rfl, rfl⟩⟩, fun c hc => by simp at hc; omega⟩
theorem bytes_four (w : World) (a b c d : Nat) (g : Nat) (hg : g = w.heap.size) (ha : a < 256) (hb : b < 256) (hc : c < 256) (hd : d < 256) (t : TypeId) : Bytes (w.alloc (.cells #[.int .u8 a, .int .u8 b, .int .u8 c, .int .u8 d] t)) (some ⟨g, 0, none⟩) 4 [a, b, c, d] := by
  subst hg
  refine ⟨rfl, fun c hc => by simp at hc; omega, fun _ => ⟨w.heap.size, 0, rfl, by simp, fun i hi => ?_⟩⟩
  rw [cell_of_row _ _ _ _ _ _ (heap_alloc_new w _), Nat.zero_add]
  match i, hi with
  | 0, _ | 1, _ | 2, _ | 3, _ => rfl
theorem bytes_ports (w : World) (s d : Nat) (hs : s < 65536) (hd : d < 65536) (g : Nat) (hg : g = w.heap.size) (t : TypeId) :
    Bytes (w.alloc (.cells #[.int .u8 ((s : Int) / 256), .int .u8 ((s : Int) % 256), .int .u8 ((d : Int) / 256), .int .u8 ((d : Int) % 256)] t)) (some ⟨g, 0, none⟩) 4 [s / 256, s % 256, d / 256, d % 256] :=
  bytes_four w (s / 256) (s % 256) (d / 256) (d % 256) g hg (by omega) (by omega) (by omega) (by omega) t
theorem own_ge {w : World} {base k : Nat} {v : Value} {l : List Nat} (h : OB w base v l) (hk : v.ownBlock = some k) : base ≤ k := by
  rcases h.1.2 with ⟨rfl, _⟩ | ⟨g, cap, cur, rfl, h2, _⟩
  · cases hk
  · cases hk; exact h2
/-- An append of bytes inside a region that draws. -/
theorem wp_appb {o : Oper} {a : Go.Act} {K : Go.Act → World → Prop} {Q : Exit → Go.Act → World → Prop} {w : World} {s x : Operand} (base : Nat) (v : Value) (l : List Nat) (hown : OB w base v l) (ad : Option Addr) (m c : Nat) (l2 : List Nat) (hr : Bytes w ad m l2)
    (h63 : l.length + m ≤ 1000000) (hbase : base ≤ w.heap.size)
    (ho : o.op = .call { callee := .builtin .append, args := #[s, x], argTypes := #[141, 141] }) (_ : o.guard = none) (hs : a.eval s = v) (hx : a.eval x = .slice ad m c)
    (h : ∀ v' w', OB w' base v' (l ++ l2) → Below base w w' → Mod (fun i => base ≤ i) w w' → K (a.put o.dst v') w') : o.wp Try.prog a w K Q := by
  obtain ⟨i0, hi, hz0, hz1, hz2⟩ := info_parts infoB
  obtain ⟨v', w', hr', h2, h3, h4⟩ := run_app (P := Try.prog) w base 141 o.type 5 i0 (.int .u8 0) 1 1 Try.underlying141 hi hz0 hz1 hz2 rfl (by decide) v l.length (u8s l) hown.1 ad m c (u8s l2) (rds_of_bytes hr) (u8s_one _) (by unfold maxLen; omega) (by omega) hbase
  unfold Oper.wp execOp
  simp only [ho, resolve, invoke, builtin, Sem.run_bind, Sem.run_pure, Result.andThen_ok, List.map_toArray, List.map_cons, List.map_nil, hs, hx, hr']
  refine h v' w' ⟨by rw [u8s_append, List.length_append, hr.1]; exact h2, fun c hc => ?_⟩ (below_of_grown hown hbase h3) ((Mod.refl _ _).grown h3 (fun k hk _ => own_ge hown hk))
  rcases List.mem_append.1 hc with h5 | h5
  · exact hown.2 c h5
  · exact hr.2.1 c h5
end Go.Proofs.Ytgjecemmejaieaa

/-
  The mixing of a hash, and the document's.
-/
namespace Go.Proofs.Ytgjecemmejaieaa
open Go.RowKit
def mulA (x : Nat) : Nat := x * 2146121005 % 4294967296
def mulB (x : Nat) : Nat := x * 2221713035 % 4294967296
def fold (d x : Nat) : Nat := x ^^^ x / d
def mixN (x : Nat) : Nat := fold 65536 (mulB (fold 32768 (mulA (fold 65536 x))))
theorem xlt {x y : Nat} (hx : x < 4294967296) (hy : y < 4294967296) : x ^^^ y < 4294967296 := Nat.xor_lt_two_pow (n := 32) (by omega) (by omega)
theorem mulA_lt (x : Nat) : mulA x < 4294967296 := Nat.mod_lt _ (by omega)
theorem mulB_lt (x : Nat) : mulB x < 4294967296 := Nat.mod_lt _ (by omega)
theorem fold_lt (d x : Nat) (hx : x < 4294967296) : fold d x < 4294967296 := xlt hx (Nat.lt_of_le_of_lt (Nat.div_le_self _ _) hx)
theorem mixN_lt (x : Nat) : mixN x < 4294967296 := fold_lt _ _ (mulB_lt _)
theorem xorI (d x : Nat) (hx : x < 4294967296) : bits .xor .u32 (x : Int) ((x : Int) / (d : Int)) = ((fold d x : Nat) : Int) :=
  u32_xor_nat x (x / d) hx (Nat.lt_of_le_of_lt (Nat.div_le_self _ _) hx)
theorem xorA (x : Nat) (hx : x < 4294967296) : bits .xor .u32 (x : Int) ((x : Int) / 65536) = ((fold 65536 x : Nat) : Int) := xorI 65536 x hx
theorem xorB (x : Nat) (hx : x < 4294967296) : bits .xor .u32 (x : Int) ((x : Int) / 32768) = ((fold 32768 x : Nat) : Int) := xorI 32768 x hx
theorem mulAI (x : Nat) : (x : Int) * 2146121005 % 4294967296 = ((mulA x : Nat) : Int) := by unfold mulA; omega
theorem mulBI (x : Nat) : (x : Int) * 2221713035 % 4294967296 = ((mulB x : Nat) : Int) := by unfold mulB; omega
set_option maxRecDepth 100000 in
theorem mixI (x : Nat) (hx : x < 4294967296) : bits .xor .u32 (bits .xor .u32 (bits .xor .u32 (x : Int) ((x : Int) / 65536) * 2146121005 % 4294967296) (bits .xor .u32 (x : Int) ((x : Int) / 65536) * 2146121005 % 4294967296 / 32768) * 2221713035 % 4294967296)
    (bits .xor .u32 (bits .xor .u32 (x : Int) ((x : Int) / 65536) * 2146121005 % 4294967296) (bits .xor .u32 (x : Int) ((x : Int) / 65536) * 2146121005 % 4294967296 / 32768) * 2221713035 % 4294967296 / 65536) = (mixN x : Nat) := by
  rw [xorA x hx, mulAI, xorB _ (mulA_lt _), mulBI, xorA _ (mulB_lt _)]
  rfl
set_option maxRecDepth 100000 in
theorem mix_any (x : Nat) (hx : x < 4294967296) (w : World) : Calls Try.prog 70 #[.int .u32 x] w fun e w' => e = .returned (.int .u32 (mixN x : Nat)) ∧ w' = w := by
  have H := Lib.hid (mixI x hx)
  go_enter Try.func70, Try.ntmps70
  go_wp2_with fail
  go_ret
  exact ⟨by rw [← H.out]; rfl, rfl⟩
end Go.Proofs.Ytgjecemmejaieaa
