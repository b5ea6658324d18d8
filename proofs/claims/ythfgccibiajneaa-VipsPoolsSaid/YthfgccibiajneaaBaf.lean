/-
  Texts in one, each behind those that it needs: FamRefB, FamMix, FamHash.
-/
import Derived.Test.YthfgccibiajneaaBae
/-
  The document's Bytes of a flow.
-/
namespace Go.Proofs.Ythfgccibiajneaa
open Go.RowKit
theorem OB.two (w : World) (x y : Nat) (hx : x < 256) (hy : y < 256) (g : Nat) (hg : g = w.heap.size) : OB (w.alloc (.cells #[.int .u8 x, .int .u8 y] 5)) g (.slice (some ⟨g, 0, none⟩) 2 2) [x, y] := by
  subst hg
  exact ⟨⟨rfl, .inr ⟨w.heap.size, 2, _, rfl, Nat.le_refl _, heap_alloc_new w _, Nat.le_refl _, by unfold maxLen; omega, rfl, rfl⟩⟩, fun c hc => by simp at hc; omega⟩
theorem bytes_four (w : World) (a b c d : Nat) (g : Nat) (hg : g = w.heap.size) (ha : a < 256) (hb : b < 256) (hc : c < 256) (hd : d < 256) (t : TypeId) : Bytes (w.alloc (.cells #[.int .u8 a, .int .u8 b, .int .u8 c, .int .u8 d] t)) (some ⟨g, 0, none⟩) 4 [a, b, c, d] := by
  subst hg
  refine ⟨rfl, fun c hc => by simp at hc; omega, fun _ => ⟨w.heap.size, 0, rfl, by simp, fun i hi => ?_⟩⟩
  rw [cell_of_row _ _ _ _ _ _ (heap_alloc_new w _), Nat.zero_add]
  match i, hi with
  | 0, _ | 1, _ | 2, _ | 3, _ => rfl
theorem bytes_ports (w : World) (s d : Nat) (hs : s < 65536) (hd : d < 65536) (g : Nat) (hg : g = w.heap.size) (t : TypeId) :
    Bytes (w.alloc (.cells #[.int .u8 ((s : Int) / 256), .int .u8 ((s : Int) % 256), .int .u8 ((d : Int) / 256), .int .u8 ((d : Int) % 256)] t)) (some ⟨g, 0, none⟩) 4 [s / 256, s % 256, d / 256, d % 256] :=
  bytes_four w (s / 256) (s % 256) (d / 256) (d % 256) g hg (by omega) (by omega) (by omega) (by omega) t
theorem own_ge {w : World} {base k : Nat} {v : Value} {l : List Nat} (h : OB w base v l) (hk : v.ownBlock = some k) : base ≤ k := by
  rcases h.1.2 with ⟨rfl, _⟩ | ⟨g, cap, cur, rfl, h2, _⟩
  · cases hk
  · cases hk; exact h2
/-- An append of bytes inside a region that draws. -/
theorem wp_appb {o : Oper} {a : Go.Act} {K : Go.Act → World → Prop} {Q : Exit → Go.Act → World → Prop} {w : World} {s x : Operand} (base : Nat) (v : Value) (l : List Nat) (hown : OB w base v l) (ad : Option Addr) (m c : Nat) (l2 : List Nat) (hr : Bytes w ad m l2)
    (h63 : l.length + m ≤ 1000000) (hbase : base ≤ w.heap.size)
    (ho : o.op = .call { callee := .builtin .append, args := #[s, x], argTypes := #[183, 183] }) (_ : o.guard = none) (hs : a.eval s = v) (hx : a.eval x = .slice ad m c)
    (h : ∀ v' w', OB w' base v' (l ++ l2) → Below base w w' → Mod (fun i => base ≤ i) w w' → K (a.put o.dst v') w') : o.wp Try.prog a w K Q := by
  obtain ⟨i0, hi, hz0, hz1, hz2⟩ := info_parts infoB
  obtain ⟨v', w', hr', h2, h3, h4⟩ := run_app (P := Try.prog) w base 183 o.type 5 i0 (.int .u8 0) 1 1 Try.underlying183 hi hz0 hz1 hz2 rfl (by decide) v l.length (u8s l) hown.1 ad m c (u8s l2) (rds_of_bytes hr) (u8s_one _) (by unfold maxLen; omega) (by omega) hbase
  unfold Oper.wp execOp
  simp only [ho, resolve, invoke, builtin, Sem.run_bind, Sem.run_pure, Result.andThen_ok, List.map_toArray, List.map_cons, List.map_nil, hs, hx, hr']
  refine h v' w' ⟨by rw [u8s_append, List.length_append, hr.1]; exact h2, fun c hc => ?_⟩ (below_of_grown hown hbase h3) ((Mod.refl _ _).grown h3 (fun k hk _ => own_ge hown hk))
  rcases List.mem_append.1 hc with h5 | h5
  · exact hown.2 c h5
  · exact hr.2.1 c h5
set_option maxRecDepth 100000 in
set_option maxHeartbeats 4000000 in
theorem refKbytes_any (k : Ky) (w : World) : Calls Try.prog 114 #[.agg (kc k)] w fun e w' => ∃ v, e = .returned v ∧ OB w' w.heap.size v (kbytes k) ∧ Below w.heap.size w w' := by
  have HK := Lib.hid (show kbytes k = if kvld k then ([k.proto, kind k] ++ abytes k.src ++ abytes k.dst) ++ [k.sp / 256, k.sp % 256] ++ [k.dp / 256, k.dp % 256] else [] from rfl)
  cases hv : kvld k
  · rw [hv] at HK
    go_enter Try.func114, Try.ntmps114
    go_wp2_with fail
    refine (refKvalid_any k _).mono ?_
    rintro e w1 ⟨rfl, hb⟩
    rw [hv]
    go_wp2_with fail
    go_ret
    exact ⟨_, rfl, by rw [HK.out]; exact OB.nil _ _, step_below ((Below.refl _ _).alloc (Nat.le_refl _) _) hb⟩
  · rw [hv, if_pos rfl] at HK
    have HKD : Hid (kind k = if k.src.v6 then 6 else 4) := Lib.hid rfl
    have hkl := kind_lt k
    cases h6 : k.src.v6
    · rw [h6] at HKD
      go_enter Try.func114, Try.ntmps114
      go_wp2_with fail
      refine (refKvalid_any k _).mono ?_
      rintro e w1 ⟨rfl, hb⟩
      rw [hv]
      have hA := (At.new w 31 (kc k)).below hb (by simp)
      have HB1 := Lib.hid (step_below ((Below.refl _ w).alloc (Nat.le_refl _) _) hb)
      have hr := hA.row
      have ho := hA.open
      have hl := hA.lt
      have c18 := hA.cell 1
      have c0 := hA.cell 0
      rw [kc_1?] at c18
      rw [kc_0?] at c0
      obtain ⟨g, hg⟩ : ∃ g, g = w.heap.size := ⟨_, rfl⟩
      rw [← hg] at hr ho hl c18 c0 hA
      rw [← hg]
      have HA := Lib.hid hA
      have HG := Lib.hid hg
      clear hb hA hg
      go_upto_region 6 with fail
      go_cut [4] (fun s4 wx => ∃ v, s4 = v ∧ OB wx w.heap.size v ([k.proto, 4] ++ abytes k.src ++ abytes k.dst) ∧ Below w1.heap.size w1 wx)
      case first =>
        refine region_sq_till (fun i => w1.heap.size ≤ i) [(0, true), (1, true), (2, true), (4, true), (5, true), (8, true), (9, true)] 6 (by kernel_rfl) (by kernel_rfl) (fun _ _ d _ _ h => by cases d <;> exact h) ?_
        repeat (first
          | (refine sq_yes rfl (by rfl) (fun w' hM => by ((try replace hM := hM.of_drew); obtain ⟨hR1, hR2, hR3⟩ := hM.rules; clear hM; go_simp; with_reducible rfl)) ?_; simp only [Act.put, List.setIfInBounds_toArray, List.set_cons_zero, List.set_cons_succ])
          | (refine sq_no rfl (by rfl) ?_; simp only [Act.put, List.setIfInBounds_toArray, List.set_cons_zero, List.set_cons_succ]))
        refine sq_end ?_
        have HW0 := Lib.hid ((Below.refl w1.heap.size w1).drew)
        have hgd : g < w1.drew.heap.size := hl
        clear hr ho hl c18 c0 HA
        generalize w1.drew = W0 at *
        refine any_two (n := 5) 3 6 (by kernel_rfl) ?_ ?_
        · refine sq_do_yes rfl (by rfl) (fun K hK => ?_)
          go_wp2_with fail
          obtain ⟨g3, hg3⟩ : ∃ g, g = W0.heap.size := ⟨_, rfl⟩
          have o3_1 : OB (W0.alloc (.cells #[.int .u8 k.proto, .int .u8 4] 5)) g3 (.slice (some ⟨g3, 0, none⟩) 2 2) [k.proto, 4] := OB.two W0 k.proto 4 k.hp (by omega) g3 hg3
          have b0 : Below W0.heap.size W0 (W0.alloc (.cells #[.int .u8 k.proto, .int .u8 4] 5)) := (Below.refl _ _).alloc (Nat.le_refl _) _
          have gm1 : g3 < (W0.alloc (.cells #[.int .u8 k.proto, .int .u8 4] 5)).heap.size := by rw [hg3]; simp
          have gl3 : w1.heap.size ≤ g3 := by rw [hg3]; exact HW0.out.size
          rw [← hg3]
          clear hg3
          generalize W0.alloc (.cells #[.int .u8 k.proto, .int .u8 4] 5) = W1 at *
          refine ⟨Mod.of_below b0, ?_⟩
          have HW1 := Lib.hid (HW0.out.trans (b0.mono HW0.out.size))
          clear b0
          refine sq_end ?_
          refine any_sq (n := 0) [(6, false), (7, false), (10, false), (11, false), (12, true)] (by kernel_rfl) (fun _ _ d _ _ h => by cases d <;> exact h) ?_
          refine sq_do_yes rfl (by rfl) (fun K hK => ?_)
          go_wp2_with fail
          refine (refBytes_any k.src _).mono ?_
          rintro e W2 ⟨v, rfl, ho, b1⟩
          obtain ⟨a6, n6, c6, rfl, hn6, y6_2, _⟩ := ho.parts
          have hm6 : n6 ≤ 16 := by rw [hn6, abytes_length]; split <;> omega
          clear ho hn6
          go_wp2_with fail
          refine ⟨Mod.of_below b1, ?_⟩
          have o3_2 := o3_1.below b1
          clear o3_1
          have HW2 := Lib.hid (HW1.out.trans (b1.mono HW1.out.size))
          have gm2 := Nat.lt_of_lt_of_le gm1 b1.size
          clear b1
          refine sq_do_yes rfl (by rfl) (fun K hK => ?_)
          refine wp_appb (g3) _ _ o3_2 a6 n6 c6 _ y6_2 (by simp; omega) (Nat.le_of_lt gm2) rfl rfl rfl rfl ?_
          intro v7 W3 o7 b2 m2
          go_wp2_with fail
          refine ⟨m2.mono (fun i _ h => Nat.le_trans gl3 h), ?_⟩
          have gm3 := Nat.lt_of_lt_of_le gm2 m2.size
          have HW3 := Lib.hid (HW2.out.trans (b2.mono gl3))
          obtain ⟨a7, n7, c7, rfl, hn7, _, _⟩ := o7.parts
          have hm7 : n7 ≤ 18 := by rw [hn7, List.length_append, y6_2.1]; simp; omega
          clear hn7 b2 m2 y6_2
          refine sq_do_yes rfl (by rfl) (fun K hK => ?_)
          go_wp2_with fail
          refine (refBytes_any k.dst _).mono ?_
          rintro e W4 ⟨v, rfl, ho, b3⟩
          obtain ⟨a10, n10, c10, rfl, hn10, y10_4, _⟩ := ho.parts
          have hm10 : n10 ≤ 16 := by rw [hn10, abytes_length]; split <;> omega
          clear ho hn10
          go_wp2_with fail
          refine ⟨Mod.of_below b3, ?_⟩
          have o7_4 := o7.below b3
          clear o7
          have HW4 := Lib.hid (HW3.out.trans (b3.mono HW3.out.size))
          have gm4 := Nat.lt_of_lt_of_le gm3 b3.size
          clear b3
          refine sq_do_yes rfl (by rfl) (fun K hK => ?_)
          refine wp_appb (g3) _ _ o7_4 a10 n10 c10 _ y10_4 (by have := abytes_length k.src; simp only [List.length_append, List.length_cons, List.length_nil]; split at this <;> omega) (Nat.le_of_lt gm4) rfl rfl rfl rfl ?_
          intro v11 W5 o11 b4 m4
          go_wp2_with fail
          refine ⟨m4.mono (fun i _ h => Nat.le_trans gl3 h), ?_⟩
          have HW5 := Lib.hid (HW4.out.trans (b4.mono gl3))
          repeat (first
            | (refine sq_yes rfl (by rfl) (fun w' hM => by ((try replace hM := hM.of_drew); obtain ⟨hR1, hR2, hR3⟩ := hM.rules; clear hM; go_simp; with_reducible rfl)) ?_; simp only [Act.put, List.setIfInBounds_toArray, List.set_cons_zero, List.set_cons_succ])
            | (refine sq_no rfl (by rfl) ?_; simp only [Act.put, List.setIfInBounds_toArray, List.set_cons_zero, List.set_cons_succ]))
          refine sq_end ?_
          refine any_end (by kernel_rfl) ?_
          go_wp2_with fail
          go_meet
          exact ⟨_, rfl, o11.base (b' := w.heap.size) (Nat.le_trans HB1.out.size gl3), HW5.out⟩
        · refine sq_do_yes rfl (by rfl) (fun K hK => ?_)
          go_wp2_with fail
          refine (refBytes_any k.src _).mono ?_
          rintro e W1 ⟨v, rfl, ho, b0⟩
          obtain ⟨a6, n6, c6, rfl, hn6, y6_1, _⟩ := ho.parts
          have hm6 : n6 ≤ 16 := by rw [hn6, abytes_length]; split <;> omega
          clear ho hn6
          go_wp2_with fail
          refine ⟨Mod.of_below b0, ?_⟩
          have HW1 := Lib.hid (HW0.out.trans (b0.mono HW0.out.size))
          clear b0
          refine sq_end ?_
          refine any_sq (n := 0) [(3, false), (7, false), (10, false), (11, false), (12, true)] (by kernel_rfl) (fun _ _ d _ _ h => by cases d <;> exact h) ?_
          refine sq_do_yes rfl (by rfl) (fun K hK => ?_)
          go_wp2_with fail
          obtain ⟨g3, hg3⟩ : ∃ g, g = W1.heap.size := ⟨_, rfl⟩
          have o3_2 : OB (W1.alloc (.cells #[.int .u8 k.proto, .int .u8 4] 5)) g3 (.slice (some ⟨g3, 0, none⟩) 2 2) [k.proto, 4] := OB.two W1 k.proto 4 k.hp (by omega) g3 hg3
          have b1 : Below W1.heap.size W1 (W1.alloc (.cells #[.int .u8 k.proto, .int .u8 4] 5)) := (Below.refl _ _).alloc (Nat.le_refl _) _
          have gm2 : g3 < (W1.alloc (.cells #[.int .u8 k.proto, .int .u8 4] 5)).heap.size := by rw [hg3]; simp
          have gl3 : w1.heap.size ≤ g3 := by rw [hg3]; exact HW1.out.size
          rw [← hg3]
          clear hg3
          generalize W1.alloc (.cells #[.int .u8 k.proto, .int .u8 4] 5) = W2 at *
          refine ⟨Mod.of_below b1, ?_⟩
          have y6_2 := y6_1.below b1
          clear y6_1
          have HW2 := Lib.hid (HW1.out.trans (b1.mono HW1.out.size))
          clear b1
          refine sq_do_yes rfl (by rfl) (fun K hK => ?_)
          refine wp_appb (g3) _ _ o3_2 a6 n6 c6 _ y6_2 (by simp; omega) (Nat.le_of_lt gm2) rfl rfl rfl rfl ?_
          intro v7 W3 o7 b2 m2
          go_wp2_with fail
          refine ⟨m2.mono (fun i _ h => Nat.le_trans gl3 h), ?_⟩
          have gm3 := Nat.lt_of_lt_of_le gm2 m2.size
          have HW3 := Lib.hid (HW2.out.trans (b2.mono gl3))
          obtain ⟨a7, n7, c7, rfl, hn7, _, _⟩ := o7.parts
          have hm7 : n7 ≤ 18 := by rw [hn7, List.length_append, y6_2.1]; simp; omega
          clear hn7 b2 m2 y6_2
          refine sq_do_yes rfl (by rfl) (fun K hK => ?_)
          go_wp2_with fail
          refine (refBytes_any k.dst _).mono ?_
          rintro e W4 ⟨v, rfl, ho, b3⟩
          obtain ⟨a10, n10, c10, rfl, hn10, y10_4, _⟩ := ho.parts
          have hm10 : n10 ≤ 16 := by rw [hn10, abytes_length]; split <;> omega
          clear ho hn10
          go_wp2_with fail
          refine ⟨Mod.of_below b3, ?_⟩
          have o7_4 := o7.below b3
          clear o7
          have HW4 := Lib.hid (HW3.out.trans (b3.mono HW3.out.size))
          have gm4 := Nat.lt_of_lt_of_le gm3 b3.size
          clear b3
          refine sq_do_yes rfl (by rfl) (fun K hK => ?_)
          refine wp_appb (g3) _ _ o7_4 a10 n10 c10 _ y10_4 (by have := abytes_length k.src; simp only [List.length_append, List.length_cons, List.length_nil]; split at this <;> omega) (Nat.le_of_lt gm4) rfl rfl rfl rfl ?_
          intro v11 W5 o11 b4 m4
          go_wp2_with fail
          refine ⟨m4.mono (fun i _ h => Nat.le_trans gl3 h), ?_⟩
          have HW5 := Lib.hid (HW4.out.trans (b4.mono gl3))
          repeat (first
            | (refine sq_yes rfl (by rfl) (fun w' hM => by ((try replace hM := hM.of_drew); obtain ⟨hR1, hR2, hR3⟩ := hM.rules; clear hM; go_simp; with_reducible rfl)) ?_; simp only [Act.put, List.setIfInBounds_toArray, List.set_cons_zero, List.set_cons_succ])
            | (refine sq_no rfl (by rfl) ?_; simp only [Act.put, List.setIfInBounds_toArray, List.set_cons_zero, List.set_cons_succ]))
          refine sq_end ?_
          refine any_end (by kernel_rfl) ?_
          go_wp2_with fail
          go_meet
          exact ⟨_, rfl, o11.base (b' := w.heap.size) (Nat.le_trans HB1.out.size gl3), HW5.out⟩
      case rest =>
        obtain ⟨v, rfl, ho4, hb⟩ := hcut
        have hA := HA.out.below hb HA.out.lt
        have HB2 := Lib.hid (step_below HB1.out hb)
        obtain ⟨l4, hl4⟩ : ∃ l4, l4 = [k.proto, 4] ++ abytes k.src ++ abytes k.dst := ⟨_, rfl⟩
        rw [← hl4] at ho4
        have HL4 := Lib.hid (show [k.proto, kind k] ++ abytes k.src ++ abytes k.dst = l4 by rw [hl4, HKD.out]; rfl)
        have hn : l4.length ≤ 34 := by rw [hl4]; simp [abytes_length]; split <;> split <;> omega
        have Y4 := Lib.hid ho4
        clear hr ho hl c18 c0 HA hb ho4 hl4
        have c35 := hA.cell 35
        have c36 := hA.cell 36
        rw [kc_35?] at c35
        rw [kc_36?] at c36
        have hl := hA.lt
        have HA := Lib.hid hA
        clear hA
        have k1 := k.hs
        have k2 := k.hd
        go_wp2_with (at_builtin; go_loud (refine wpList_appb _ rfl _ _ rfl w.heap.size _ l4 rfl (Y4.out.below ((Below.refl _ _).alloc (Nat.le_refl _) _)) (some ⟨wc.heap.size, 0, none⟩) 4 4 [k.sp / 256, k.sp % 256, k.dp / 256, k.dp % 256] rfl (bytes_ports wc k.sp k.dp k.hs k.hd _ rfl _) (by omega) (by have := HB2.out.size; simp; omega) ?_; intro v' w3 ho3 hb3 _))
        go_ret
        exact ⟨_, rfl, by rw [HK.out, HL4.out, List.append_assoc]; exact ho3, (HB2.out.alloc HB2.out.size _).trans hb3⟩
    · rw [h6] at HKD
      go_enter Try.func114, Try.ntmps114
      go_wp2_with fail
      refine (refKvalid_any k _).mono ?_
      rintro e w1 ⟨rfl, hb⟩
      rw [hv]
      have hA := (At.new w 31 (kc k)).below hb (by simp)
      have HB1 := Lib.hid (step_below ((Below.refl _ w).alloc (Nat.le_refl _) _) hb)
      have hr := hA.row
      have ho := hA.open
      have hl := hA.lt
      have c18 := hA.cell 1
      have c0 := hA.cell 0
      rw [kc_1?] at c18
      rw [kc_0?] at c0
      obtain ⟨g, hg⟩ : ∃ g, g = w.heap.size := ⟨_, rfl⟩
      rw [← hg] at hr ho hl c18 c0 hA
      rw [← hg]
      have HA := Lib.hid hA
      have HG := Lib.hid hg
      clear hb hA hg
      go_upto_region 6 with fail
      go_cut [4] (fun s4 wx => ∃ v, s4 = v ∧ OB wx w.heap.size v ([k.proto, 6] ++ abytes k.src ++ abytes k.dst) ∧ Below w1.heap.size w1 wx)
      case first =>
        refine region_sq_till (fun i => w1.heap.size ≤ i) [(0, true), (1, true), (2, true), (4, true), (5, true), (8, true), (9, true)] 6 (by kernel_rfl) (by kernel_rfl) (fun _ _ d _ _ h => by cases d <;> exact h) ?_
        repeat (first
          | (refine sq_yes rfl (by rfl) (fun w' hM => by ((try replace hM := hM.of_drew); obtain ⟨hR1, hR2, hR3⟩ := hM.rules; clear hM; go_simp; with_reducible rfl)) ?_; simp only [Act.put, List.setIfInBounds_toArray, List.set_cons_zero, List.set_cons_succ])
          | (refine sq_no rfl (by rfl) ?_; simp only [Act.put, List.setIfInBounds_toArray, List.set_cons_zero, List.set_cons_succ]))
        refine sq_end ?_
        have HW0 := Lib.hid ((Below.refl w1.heap.size w1).drew)
        have hgd : g < w1.drew.heap.size := hl
        clear hr ho hl c18 c0 HA
        generalize w1.drew = W0 at *
        refine any_two (n := 5) 3 6 (by kernel_rfl) ?_ ?_
        · refine sq_do_yes rfl (by rfl) (fun K hK => ?_)
          go_wp2_with fail
          obtain ⟨g3, hg3⟩ : ∃ g, g = W0.heap.size := ⟨_, rfl⟩
          have o3_1 : OB (W0.alloc (.cells #[.int .u8 k.proto, .int .u8 6] 5)) g3 (.slice (some ⟨g3, 0, none⟩) 2 2) [k.proto, 6] := OB.two W0 k.proto 6 k.hp (by omega) g3 hg3
          have b0 : Below W0.heap.size W0 (W0.alloc (.cells #[.int .u8 k.proto, .int .u8 6] 5)) := (Below.refl _ _).alloc (Nat.le_refl _) _
          have gm1 : g3 < (W0.alloc (.cells #[.int .u8 k.proto, .int .u8 6] 5)).heap.size := by rw [hg3]; simp
          have gl3 : w1.heap.size ≤ g3 := by rw [hg3]; exact HW0.out.size
          rw [← hg3]
          clear hg3
          generalize W0.alloc (.cells #[.int .u8 k.proto, .int .u8 6] 5) = W1 at *
          refine ⟨Mod.of_below b0, ?_⟩
          have HW1 := Lib.hid (HW0.out.trans (b0.mono HW0.out.size))
          clear b0
          refine sq_end ?_
          refine any_sq (n := 0) [(6, false), (7, false), (10, false), (11, false), (12, true)] (by kernel_rfl) (fun _ _ d _ _ h => by cases d <;> exact h) ?_
          refine sq_do_yes rfl (by rfl) (fun K hK => ?_)
          go_wp2_with fail
          refine (refBytes_any k.src _).mono ?_
          rintro e W2 ⟨v, rfl, ho, b1⟩
          obtain ⟨a6, n6, c6, rfl, hn6, y6_2, _⟩ := ho.parts
          have hm6 : n6 ≤ 16 := by rw [hn6, abytes_length]; split <;> omega
          clear ho hn6
          go_wp2_with fail
          refine ⟨Mod.of_below b1, ?_⟩
          have o3_2 := o3_1.below b1
          clear o3_1
          have HW2 := Lib.hid (HW1.out.trans (b1.mono HW1.out.size))
          have gm2 := Nat.lt_of_lt_of_le gm1 b1.size
          clear b1
          refine sq_do_yes rfl (by rfl) (fun K hK => ?_)
          refine wp_appb (g3) _ _ o3_2 a6 n6 c6 _ y6_2 (by simp; omega) (Nat.le_of_lt gm2) rfl rfl rfl rfl ?_
          intro v7 W3 o7 b2 m2
          go_wp2_with fail
          refine ⟨m2.mono (fun i _ h => Nat.le_trans gl3 h), ?_⟩
          have gm3 := Nat.lt_of_lt_of_le gm2 m2.size
          have HW3 := Lib.hid (HW2.out.trans (b2.mono gl3))
          obtain ⟨a7, n7, c7, rfl, hn7, _, _⟩ := o7.parts
          have hm7 : n7 ≤ 18 := by rw [hn7, List.length_append, y6_2.1]; simp; omega
          clear hn7 b2 m2 y6_2
          refine sq_do_yes rfl (by rfl) (fun K hK => ?_)
          go_wp2_with fail
          refine (refBytes_any k.dst _).mono ?_
          rintro e W4 ⟨v, rfl, ho, b3⟩
          obtain ⟨a10, n10, c10, rfl, hn10, y10_4, _⟩ := ho.parts
          have hm10 : n10 ≤ 16 := by rw [hn10, abytes_length]; split <;> omega
          clear ho hn10
          go_wp2_with fail
          refine ⟨Mod.of_below b3, ?_⟩
          have o7_4 := o7.below b3
          clear o7
          have HW4 := Lib.hid (HW3.out.trans (b3.mono HW3.out.size))
          have gm4 := Nat.lt_of_lt_of_le gm3 b3.size
          clear b3
          refine sq_do_yes rfl (by rfl) (fun K hK => ?_)
          refine wp_appb (g3) _ _ o7_4 a10 n10 c10 _ y10_4 (by have := abytes_length k.src; simp only [List.length_append, List.length_cons, List.length_nil]; split at this <;> omega) (Nat.le_of_lt gm4) rfl rfl rfl rfl ?_
          intro v11 W5 o11 b4 m4
          go_wp2_with fail
          refine ⟨m4.mono (fun i _ h => Nat.le_trans gl3 h), ?_⟩
          have HW5 := Lib.hid (HW4.out.trans (b4.mono gl3))
          repeat (first
            | (refine sq_yes rfl (by rfl) (fun w' hM => by ((try replace hM := hM.of_drew); obtain ⟨hR1, hR2, hR3⟩ := hM.rules; clear hM; go_simp; with_reducible rfl)) ?_; simp only [Act.put, List.setIfInBounds_toArray, List.set_cons_zero, List.set_cons_succ])
            | (refine sq_no rfl (by rfl) ?_; simp only [Act.put, List.setIfInBounds_toArray, List.set_cons_zero, List.set_cons_succ]))
          refine sq_end ?_
          refine any_end (by kernel_rfl) ?_
          go_wp2_with fail
          go_meet
          exact ⟨_, rfl, o11.base (b' := w.heap.size) (Nat.le_trans HB1.out.size gl3), HW5.out⟩
        · refine sq_do_yes rfl (by rfl) (fun K hK => ?_)
          go_wp2_with fail
          refine (refBytes_any k.src _).mono ?_
          rintro e W1 ⟨v, rfl, ho, b0⟩
          obtain ⟨a6, n6, c6, rfl, hn6, y6_1, _⟩ := ho.parts
          have hm6 : n6 ≤ 16 := by rw [hn6, abytes_length]; split <;> omega
          clear ho hn6
          go_wp2_with fail
          refine ⟨Mod.of_below b0, ?_⟩
          have HW1 := Lib.hid (HW0.out.trans (b0.mono HW0.out.size))
          clear b0
          refine sq_end ?_
          refine any_sq (n := 0) [(3, false), (7, false), (10, false), (11, false), (12, true)] (by kernel_rfl) (fun _ _ d _ _ h => by cases d <;> exact h) ?_
          refine sq_do_yes rfl (by rfl) (fun K hK => ?_)
          go_wp2_with fail
          obtain ⟨g3, hg3⟩ : ∃ g, g = W1.heap.size := ⟨_, rfl⟩
          have o3_2 : OB (W1.alloc (.cells #[.int .u8 k.proto, .int .u8 6] 5)) g3 (.slice (some ⟨g3, 0, none⟩) 2 2) [k.proto, 6] := OB.two W1 k.proto 6 k.hp (by omega) g3 hg3
          have b1 : Below W1.heap.size W1 (W1.alloc (.cells #[.int .u8 k.proto, .int .u8 6] 5)) := (Below.refl _ _).alloc (Nat.le_refl _) _
          have gm2 : g3 < (W1.alloc (.cells #[.int .u8 k.proto, .int .u8 6] 5)).heap.size := by rw [hg3]; simp
          have gl3 : w1.heap.size ≤ g3 := by rw [hg3]; exact HW1.out.size
          rw [← hg3]
          clear hg3
          generalize W1.alloc (.cells #[.int .u8 k.proto, .int .u8 6] 5) = W2 at *
          refine ⟨Mod.of_below b1, ?_⟩
          have y6_2 := y6_1.below b1
          clear y6_1
          have HW2 := Lib.hid (HW1.out.trans (b1.mono HW1.out.size))
          clear b1
          refine sq_do_yes rfl (by rfl) (fun K hK => ?_)
          refine wp_appb (g3) _ _ o3_2 a6 n6 c6 _ y6_2 (by simp; omega) (Nat.le_of_lt gm2) rfl rfl rfl rfl ?_
          intro v7 W3 o7 b2 m2
          go_wp2_with fail
          refine ⟨m2.mono (fun i _ h => Nat.le_trans gl3 h), ?_⟩
          have gm3 := Nat.lt_of_lt_of_le gm2 m2.size
          have HW3 := Lib.hid (HW2.out.trans (b2.mono gl3))
          obtain ⟨a7, n7, c7, rfl, hn7, _, _⟩ := o7.parts
          have hm7 : n7 ≤ 18 := by rw [hn7, List.length_append, y6_2.1]; simp; omega
          clear hn7 b2 m2 y6_2
          refine sq_do_yes rfl (by rfl) (fun K hK => ?_)
          go_wp2_with fail
          refine (refBytes_any k.dst _).mono ?_
          rintro e W4 ⟨v, rfl, ho, b3⟩
          obtain ⟨a10, n10, c10, rfl, hn10, y10_4, _⟩ := ho.parts
          have hm10 : n10 ≤ 16 := by rw [hn10, abytes_length]; split <;> omega
          clear ho hn10
          go_wp2_with fail
          refine ⟨Mod.of_below b3, ?_⟩
          have o7_4 := o7.below b3
          clear o7
          have HW4 := Lib.hid (HW3.out.trans (b3.mono HW3.out.size))
          have gm4 := Nat.lt_of_lt_of_le gm3 b3.size
          clear b3
          refine sq_do_yes rfl (by rfl) (fun K hK => ?_)
          refine wp_appb (g3) _ _ o7_4 a10 n10 c10 _ y10_4 (by have := abytes_length k.src; simp only [List.length_append, List.length_cons, List.length_nil]; split at this <;> omega) (Nat.le_of_lt gm4) rfl rfl rfl rfl ?_
          intro v11 W5 o11 b4 m4
          go_wp2_with fail
          refine ⟨m4.mono (fun i _ h => Nat.le_trans gl3 h), ?_⟩
          have HW5 := Lib.hid (HW4.out.trans (b4.mono gl3))
          repeat (first
            | (refine sq_yes rfl (by rfl) (fun w' hM => by ((try replace hM := hM.of_drew); obtain ⟨hR1, hR2, hR3⟩ := hM.rules; clear hM; go_simp; with_reducible rfl)) ?_; simp only [Act.put, List.setIfInBounds_toArray, List.set_cons_zero, List.set_cons_succ])
            | (refine sq_no rfl (by rfl) ?_; simp only [Act.put, List.setIfInBounds_toArray, List.set_cons_zero, List.set_cons_succ]))
          refine sq_end ?_
          refine any_end (by kernel_rfl) ?_
          go_wp2_with fail
          go_meet
          exact ⟨_, rfl, o11.base (b' := w.heap.size) (Nat.le_trans HB1.out.size gl3), HW5.out⟩
      case rest =>
        obtain ⟨v, rfl, ho4, hb⟩ := hcut
        have hA := HA.out.below hb HA.out.lt
        have HB2 := Lib.hid (step_below HB1.out hb)
        obtain ⟨l4, hl4⟩ : ∃ l4, l4 = [k.proto, 6] ++ abytes k.src ++ abytes k.dst := ⟨_, rfl⟩
        rw [← hl4] at ho4
        have HL4 := Lib.hid (show [k.proto, kind k] ++ abytes k.src ++ abytes k.dst = l4 by rw [hl4, HKD.out]; rfl)
        have hn : l4.length ≤ 34 := by rw [hl4]; simp [abytes_length]; split <;> split <;> omega
        have Y4 := Lib.hid ho4
        clear hr ho hl c18 c0 HA hb ho4 hl4
        have c35 := hA.cell 35
        have c36 := hA.cell 36
        rw [kc_35?] at c35
        rw [kc_36?] at c36
        have hl := hA.lt
        have HA := Lib.hid hA
        clear hA
        have k1 := k.hs
        have k2 := k.hd
        go_wp2_with (at_builtin; go_loud (refine wpList_appb _ rfl _ _ rfl w.heap.size _ l4 rfl (Y4.out.below ((Below.refl _ _).alloc (Nat.le_refl _) _)) (some ⟨wc.heap.size, 0, none⟩) 4 4 [k.sp / 256, k.sp % 256, k.dp / 256, k.dp % 256] rfl (bytes_ports wc k.sp k.dp k.hs k.hd _ rfl _) (by omega) (by have := HB2.out.size; simp; omega) ?_; intro v' w3 ho3 hb3 _))
        go_ret
        exact ⟨_, rfl, by rw [HK.out, HL4.out, List.append_assoc]; exact ho3, (HB2.out.alloc HB2.out.size _).trans hb3⟩
end Go.Proofs.Ythfgccibiajneaa

/-
  The mixing of a hash, and the document's.
-/
namespace Go.Proofs.Ythfgccibiajneaa
open Go.RowKit
def mulA (x : Nat) : Nat := x * 2146121005 % 4294967296
def mulB (x : Nat) : Nat := x * 2221713035 % 4294967296
def fold (d x : Nat) : Nat := x ^^^ x / d
def mixN (x : Nat) : Nat := fold 65536 (mulB (fold 32768 (mulA (fold 65536 x))))
theorem xlt {x y : Nat} (hx : x < 4294967296) (hy : y < 4294967296) : x ^^^ y < 4294967296 := Nat.xor_lt_two_pow (n := 32) (by omega) (by omega)
theorem mulA_lt (x : Nat) : mulA x < 4294967296 := Nat.mod_lt _ (by omega)
theorem mulB_lt (x : Nat) : mulB x < 4294967296 := Nat.mod_lt _ (by omega)
theorem fold_lt (d x : Nat) (hx : x < 4294967296) : fold d x < 4294967296 := xlt hx (Nat.lt_of_le_of_lt (Nat.div_le_self _ _) hx)
theorem mixN_lt (x : Nat) : mixN x < 4294967296 := fold_lt _ _ (mulB_lt _)
theorem xorI (d x : Nat) (hx : x < 4294967296) : bits .xor .u32 (x : Int) ((x : Int) / (d : Int)) = ((fold d x : Nat) : Int) :=
  u32_xor_nat x (x / d) hx (Nat.lt_of_le_of_lt (Nat.div_le_self _ _) hx)
theorem xorA (x : Nat) (hx : x < 4294967296) : bits .xor .u32 (x : Int) ((x : Int) / 65536) = ((fold 65536 x : Nat) : Int) := xorI 65536 x hx
theorem xorB (x : Nat) (hx : x < 4294967296) : bits .xor .u32 (x : Int) ((x : Int) / 32768) = ((fold 32768 x : Nat) : Int) := xorI 32768 x hx
theorem mulAI (x : Nat) : (x : Int) * 2146121005 % 4294967296 = ((mulA x : Nat) : Int) := by unfold mulA; omega
theorem mulBI (x : Nat) : (x : Int) * 2221713035 % 4294967296 = ((mulB x : Nat) : Int) := by unfold mulB; omega
set_option maxRecDepth 100000 in
theorem mixI (x : Nat) (hx : x < 4294967296) : bits .xor .u32 (bits .xor .u32 (bits .xor .u32 (x : Int) ((x : Int) / 65536) * 2146121005 % 4294967296) (bits .xor .u32 (x : Int) ((x : Int) / 65536) * 2146121005 % 4294967296 / 32768) * 2221713035 % 4294967296)
    (bits .xor .u32 (bits .xor .u32 (x : Int) ((x : Int) / 65536) * 2146121005 % 4294967296) (bits .xor .u32 (x : Int) ((x : Int) / 65536) * 2146121005 % 4294967296 / 32768) * 2221713035 % 4294967296 / 65536) = (mixN x : Nat) := by
  rw [xorA x hx, mulAI, xorB _ (mulA_lt _), mulBI, xorA _ (mulB_lt _)]
  rfl
set_option maxRecDepth 100000 in
theorem mix_any (x : Nat) (hx : x < 4294967296) (w : World) : Calls Try.prog 108 #[.int .u32 x] w fun e w' => e = .returned (.int .u32 (mixN x : Nat)) ∧ w' = w := by
  have H := Lib.hid (mixI x hx)
  go_enter Try.func108, Try.ntmps108
  go_wp2_with fail
  go_ret
  exact ⟨by rw [← H.out]; rfl, rfl⟩
set_option maxRecDepth 100000 in
theorem refMix_any (x : Nat) (hx : x < 4294967296) (w : World) : Calls Try.prog 111 #[.int .u32 x] w fun e w' => e = .returned (.int .u32 (mixN x : Nat)) ∧ w' = w := by
  have H := Lib.hid (mixI x hx)
  go_enter Try.func111, Try.ntmps111
  go_wp2_with fail
  go_ret
  exact ⟨by rw [← H.out]; rfl, rfl⟩
end Go.Proofs.Ythfgccibiajneaa

/-
  Configurations: their cells; a family in memory; the hash of a flow, and the document's.
-/
namespace Go.Proofs.Ythfgccibiajneaa
open Go.RowKit
structure Cf where
  stages : Int
  size : Int
  digest : Int
  bloom : Int
  hashes : Int
  slots : Int
  versions : Int
  queue : Int
  evict : Int
  idle : Int
  linger : Int
  fails : Int
  encap : Bool
  own : Adr
  own6 : Adr
  seed : Nat
  hseed : seed < 4294967296
def Cf.head (c : Cf) : List Value := [.int .i64 c.stages, .int .i64 c.size, .int .i64 c.digest, .int .i64 c.bloom, .int .i64 c.hashes, .int .i64 c.slots, .int .i64 c.versions, .int .i64 c.queue, .int .i64 c.evict, .int .i64 c.idle, .int .i64 c.linger, .int .i64 c.fails, .bool c.encap]
def Cf.l (c : Cf) : List Value := c.head ++ (c.own.l ++ (c.own6.l ++ [.int .u32 c.seed]))
def cc (c : Cf) : Array Value := c.l.toArray
theorem Cf.l_length (c : Cf) : c.l.length = 48 := by simp [Cf.l, Cf.head, Adr.l_length]
@[go_sem] theorem cc_size (c : Cf) : (cc c).size = 48 := c.l_length
theorem cl_get (c : Cf) (j : Nat) : (cc c)[j]? = c.l[j]? := by simp [cc]
theorem cl_head (c : Cf) (j : Nat) (h : j < 13) : (cc c)[j]? = c.head[j]? := by
  rw [cl_get, Cf.l, List.getElem?_append_left (by simpa [Cf.head] using h)]
theorem cl_own (c : Cf) (j : Nat) (h : j < 17) : (cc c)[j + 13]? = (ac c.own)[j]? := by
  have := c.own.l_length
  rw [cl_get, Cf.l, List.getElem?_append_right (by simp [Cf.head]), List.getElem?_append_left (by simp [Cf.head]; omega), ac_get]
  simp [Cf.head]
theorem cl_own6 (c : Cf) (j : Nat) (h : j < 17) : (cc c)[j + 30]? = (ac c.own6)[j]? := by
  have := c.own.l_length; have := c.own6.l_length
  rw [cl_get, Cf.l, List.getElem?_append_right (by simp [Cf.head]), List.getElem?_append_right (by simp [Cf.head]; omega), List.getElem?_append_left (by simp [Cf.head]; omega), ac_get]
  congr 1; simp [Cf.head]; omega
theorem cl_seed (c : Cf) : (cc c)[47]? = some (.int .u32 c.seed) := by
  have := c.own.l_length; have := c.own6.l_length
  rw [cl_get, Cf.l, List.getElem?_append_right (by simp [Cf.head]), List.getElem?_append_right (by simp [Cf.head]; omega), List.getElem?_append_right (by simp [Cf.head]; omega)]
  have e : 47 - c.head.length - c.own.l.length - c.own6.l.length = 0 := by simp [Cf.head]; omega
  rw [e]; rfl
theorem cc_13? (c : Cf) : (cc c)[13]? = some (.bool c.own.v6) := by rw [cl_own c 0 (by omega)]; exact ac_0? _
theorem cc_30? (c : Cf) : (cc c)[30]? = some (.bool c.own6.v6) := by rw [cl_own6 c 0 (by omega)]; exact ac_0? _
@[go_sem] theorem cc_0 (c : Cf) (h : 0 < (cc c).size) : (cc c)[0] = .int .i64 c.stages := get_of (cl_head c 0 (by omega)) h
@[go_sem] theorem cc_1 (c : Cf) (h : 1 < (cc c).size) : (cc c)[1] = .int .i64 c.size := get_of (cl_head c 1 (by omega)) h
@[go_sem] theorem cc_2 (c : Cf) (h : 2 < (cc c).size) : (cc c)[2] = .int .i64 c.digest := get_of (cl_head c 2 (by omega)) h
@[go_sem] theorem cc_3 (c : Cf) (h : 3 < (cc c).size) : (cc c)[3] = .int .i64 c.bloom := get_of (cl_head c 3 (by omega)) h
@[go_sem] theorem cc_4 (c : Cf) (h : 4 < (cc c).size) : (cc c)[4] = .int .i64 c.hashes := get_of (cl_head c 4 (by omega)) h
@[go_sem] theorem cc_5 (c : Cf) (h : 5 < (cc c).size) : (cc c)[5] = .int .i64 c.slots := get_of (cl_head c 5 (by omega)) h
@[go_sem] theorem cc_6 (c : Cf) (h : 6 < (cc c).size) : (cc c)[6] = .int .i64 c.versions := get_of (cl_head c 6 (by omega)) h
@[go_sem] theorem cc_7 (c : Cf) (h : 7 < (cc c).size) : (cc c)[7] = .int .i64 c.queue := get_of (cl_head c 7 (by omega)) h
@[go_sem] theorem cc_8 (c : Cf) (h : 8 < (cc c).size) : (cc c)[8] = .int .i64 c.evict := get_of (cl_head c 8 (by omega)) h
@[go_sem] theorem cc_9 (c : Cf) (h : 9 < (cc c).size) : (cc c)[9] = .int .i64 c.idle := get_of (cl_head c 9 (by omega)) h
@[go_sem] theorem cc_10 (c : Cf) (h : 10 < (cc c).size) : (cc c)[10] = .int .i64 c.linger := get_of (cl_head c 10 (by omega)) h
@[go_sem] theorem cc_11 (c : Cf) (h : 11 < (cc c).size) : (cc c)[11] = .int .i64 c.fails := get_of (cl_head c 11 (by omega)) h
@[go_sem] theorem cc_12 (c : Cf) (h : 12 < (cc c).size) : (cc c)[12] = .bool c.encap := get_of (cl_head c 12 (by omega)) h
@[go_sem] theorem cc_13 (c : Cf) (h : 13 < (cc c).size) : (cc c)[13] = .bool c.own.v6 := get_of (cc_13? c) h
@[go_sem] theorem cc_30 (c : Cf) (h : 30 < (cc c).size) : (cc c)[30] = .bool c.own6.v6 := get_of (cc_30? c) h
@[go_sem] theorem cc_47 (c : Cf) (h : 47 < (cc c).size) : (cc c)[47] = .int .u32 c.seed := get_of (cl_seed c) h
@[go_sem] theorem cc_own (c : Cf) : (cc c).extract 13 30 = ac c.own := ext_of (a := 13) (n := 17) (ac_size _) (by rw [cc_size]; omega) fun j hj => cl_own c j hj
@[go_sem] theorem cc_own6 (c : Cf) : (cc c).extract 30 47 = ac c.own6 := ext_of (a := 30) (n := 17) (ac_size _) (by rw [cc_size]; omega) fun j hj => cl_own6 c j hj
@[go_sem] theorem cc_all (c : Cf) : (cc c).extract 0 48 = cc c := ext_of (a := 0) (n := 48) (cc_size _) (by rw [cc_size]; omega) fun j _ => rfl
theorem sizeC : (Try.prog.info? 27).map (·.size) = some 48 := by kernel_rfl
theorem loadC (x : Operand) (dst : Option Tmp) (t : TypeId) (pos : String) (after : Array Edge) (g : Option (Nat × Bool)) (f : Operand → Value) (w : World)
    (hx : plainPtr (f x) = true) (ho : open_ w (blk (f x)) = true) (hs : offOf (f x) + 48 ≤ (row w (blk (f x))).size) :
    (execOp f ⟨dst, .load 27 x, t, pos, after, g⟩).run Try.prog w = .ok (.value (.agg ((row w (blk (f x))).extract (offOf (f x)) (offOf (f x) + 48)))) w :=
  exec_load_part 27 _ 48 Try.underlying27 rfl sizeC x dst t pos after g f w hx ho hs
theorem loadT (x : Operand) (dst : Option Tmp) (t : TypeId) (pos : String) (after : Array Edge) (g : Option (Nat × Bool)) (f : Operand → Value) (w : World)
    (hx : plainPtr (f x) = true) (ho : open_ w (blk (f x)) = true) (hs : offOf (f x) + 256 ≤ (row w (blk (f x))).size) :
    (execOp f ⟨dst, .load 136 x, t, pos, after, g⟩).run Try.prog w = .ok (.value (.agg ((row w (blk (f x))).extract (offOf (f x)) (offOf (f x) + 256)))) w :=
  exec_load_part 136 _ 256 Try.underlying136 rfl size26 x dst t pos after g f w hx ho hs
attribute [go_sem ↓] loadC loadT
/-- A family's cells. -/
def fc (c : Cf) : Array Value := cc c ++ tabv (poly 0) ++ tabv (poly 1) ++ tabv (poly 2) ++ tabv (poly 3)
theorem tabv_size (p : Nat) : (tabv p).size = 256 := tabk_size p 256
@[go_sem] theorem fc_size (c : Cf) : (fc c).size = 1072 := by simp [fc, cc_size, tabv_size]
theorem fc_get (c : Cf) (j : Nat) (h : j < 48) : (fc c)[j]? = (cc c)[j]? := by
  unfold fc
  rw [Array.getElem?_append_left (by simp [cc_size, tabv_size]; omega), Array.getElem?_append_left (by simp [cc_size, tabv_size]; omega), Array.getElem?_append_left (by simp [cc_size, tabv_size]; omega), Array.getElem?_append_left (by simp [cc_size]; omega)]
@[go_sem] theorem fc_t0 (c : Cf) : (fc c).extract 48 304 = tabv (poly 0) := ext_of (a := 48) (n := 256) (tabv_size _) (by rw [fc_size]; omega) fun j hj => by
  unfold fc
  rw [Array.getElem?_append_left (by simp [cc_size, tabv_size]; omega), Array.getElem?_append_left (by simp [cc_size, tabv_size]; omega), Array.getElem?_append_left (by simp [cc_size, tabv_size]; omega), Array.getElem?_append_right (by simp [cc_size])]
  congr 1; simp [cc_size]
@[go_sem] theorem fc_t1 (c : Cf) : (fc c).extract 304 560 = tabv (poly 1) := ext_of (a := 304) (n := 256) (tabv_size _) (by rw [fc_size]; omega) fun j hj => by
  unfold fc
  rw [Array.getElem?_append_left (by simp [cc_size, tabv_size]; omega), Array.getElem?_append_left (by simp [cc_size, tabv_size]; omega), Array.getElem?_append_right (by simp [cc_size, tabv_size])]
  rw [show j + 304 - (cc c ++ tabv (poly 0)).size = j by simp [cc_size, tabv_size]]
@[go_sem] theorem fc_t2 (c : Cf) : (fc c).extract 560 816 = tabv (poly 2) := ext_of (a := 560) (n := 256) (tabv_size _) (by rw [fc_size]; omega) fun j hj => by
  unfold fc
  rw [Array.getElem?_append_left (by simp [cc_size, tabv_size]; omega), Array.getElem?_append_right (by simp [cc_size, tabv_size])]
  rw [show j + 560 - (cc c ++ tabv (poly 0) ++ tabv (poly 1)).size = j by simp [cc_size, tabv_size]]
@[go_sem] theorem fc_t3 (c : Cf) : (fc c).extract 816 1072 = tabv (poly 3) := ext_of (a := 816) (n := 256) (tabv_size _) (by rw [fc_size]; omega) fun j hj => by
  unfold fc
  rw [Array.getElem?_append_right (by simp [cc_size, tabv_size])]
  rw [show j + 816 - (cc c ++ tabv (poly 0) ++ tabv (poly 1) ++ tabv (poly 2)).size = j by simp [cc_size, tabv_size]]
theorem of_int (p : Nat) (hp : p < 4294967296) (s : Int) (h0 : 0 ≤ s) (hs : s < 4294967296) (a : Option Addr) (n c : Nat) (l : List Nat) (w : World) (hb : Bytes w a n l) (hn : n ≤ 1000000) :
    Calls Try.prog 109 #[.agg (tabv p), .int .u32 s, .slice a n c] w fun e w' => e = .returned (.int .u32 (crc p s.toNat l : Nat)) ∧ w' = w.alloc (.cells (tabv p) 136) := by
  obtain ⟨s, rfl⟩ := Int.eq_ofNat_of_zero_le h0
  exact of_any p hp s (by omega) a n c l w hb hn
/-- A flow's n-th hash. -/
def hsh (s n : Nat) (l : List Nat) : Nat := mixN (crc (poly (n % 4)) ((s + 7919 * n) % 4294967296) l)
theorem hsh_lt (s n : Nat) (l : List Nat) : hsh s n l < 4294967296 := mixN_lt _
theorem kbytes_length (k : Ky) : (kbytes k).length ≤ 40 := by
  unfold kbytes
  split
  · simp [abytes_length]; split <;> split <;> omega
  · simp
theorem kbytes_lt (k : Ky) : ∀ c ∈ kbytes k, c < 256 := by
  intro c hc
  have h1 := k.hp; have h2 := k.hs; have h3 := k.hd; have h4 := kind_lt k; have h5 := abytes_lt k.src; have h6 := abytes_lt k.dst
  unfold kbytes at hc
  split at hc
  · simp only [List.mem_append, List.mem_cons, List.not_mem_nil, or_false] at hc
    rcases hc with ((((h | h) | h) | h) | h | h) | h | h
    · omega
    · omega
    · exact h5 c h
    · exact h6 c h
    all_goals omega
  · cases hc
end Go.Proofs.Ythfgccibiajneaa
