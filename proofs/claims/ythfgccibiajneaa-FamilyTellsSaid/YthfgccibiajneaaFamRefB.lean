/-
  The document's Bytes of a flow.
-/
import Derived.Test.YthfgccibiajneaaFamRef
import Derived.Deep.DeepCutAuto
namespace Go.Proofs.Ythfgccibiajneaa
open Go.RowKit
theorem OB.two (w : World) (x y : Nat) (hx : x < 256) (hy : y < 256) (g : Nat) (hg : g = w.heap.size) : OB (w.alloc (.cells #[.int .u8 x, .int .u8 y] 5)) g (.slice (some ⟨g, 0, none⟩) 2 2) [x, y] := by
  subst hg
  exact ⟨⟨rfl, .inr ⟨w.heap.size, 2, _, rfl, Nat.le_refl _, heap_alloc_new w _, Nat.le_refl _, by unfold maxLen; omega, rfl, rfl⟩⟩, fun c hc => by simp at hc; omega⟩
theorem bytes_four (w : World) (a b c d : Nat) (g : Nat) (hg : g = w.heap.size) (ha : a < 256) (hb : b < 256) (hc : c < 256) (hd : d < 256) (t : TypeId) : Bytes (w.alloc (.cells #[.int .u8 a, .int .u8 b, .int .u8 c, .int .u8 d] t)) (some ⟨g, 0, none⟩) 4 [a, b, c, d] := by
  subst hg
  refine ⟨rfl, fun c hc => by simp at hc; omega, fun _ => ⟨w.heap.size, 0, rfl, by simp, fun i hi => ?_⟩⟩
  rw [cell_of_row _ _ _ _ _ _ (heap_alloc_new w _), Nat.zero_add]
  match i, hi with
  | 0, _ | 1, _ | 2, _ | 3, _ => rfl
theorem bytes_ports (w : World) (s d : Nat) (hs : s < 65536) (hd : d < 65536) (g : Nat) (hg : g = w.heap.size) (t : TypeId) :
    Bytes (w.alloc (.cells #[.int .u8 ((s : Int) / 256), .int .u8 ((s : Int) % 256), .int .u8 ((d : Int) / 256), .int .u8 ((d : Int) % 256)] t)) (some ⟨g, 0, none⟩) 4 [s / 256, s % 256, d / 256, d % 256] :=
  bytes_four w (s / 256) (s % 256) (d / 256) (d % 256) g hg (by omega) (by omega) (by omega) (by omega) t
theorem own_ge {w : World} {base k : Nat} {v : Value} {l : List Nat} (h : OB w base v l) (hk : v.ownBlock = some k) : base ≤ k := by
  rcases h.1.2 with ⟨rfl, _⟩ | ⟨g, cap, cur, rfl, h2, _⟩
  · cases hk
  · cases hk; exact h2
/-- An append of bytes inside a region that draws. -/
theorem wp_appb {o : Oper} {a : Go.Act} {K : Go.Act → World → Prop} {Q : Exit → Go.Act → World → Prop} {w : World} {s x : Operand} (base : Nat) (v : Value) (l : List Nat) (hown : OB w base v l) (ad : Option Addr) (m c : Nat) (l2 : List Nat) (hr : Bytes w ad m l2)
    (h63 : l.length + m ≤ 1000000) (hbase : base ≤ w.heap.size)
    (ho : o.op = .call { callee := .builtin .append, args := #[s, x], argTypes := #[183, 183] }) (_ : o.guard = none) (hs : a.eval s = v) (hx : a.eval x = .slice ad m c)
    (h : ∀ v' w', OB w' base v' (l ++ l2) → Below base w w' → Mod (fun i => base ≤ i) w w' → K (a.put o.dst v') w') : o.wp Try.prog a w K Q := by
  obtain ⟨i0, hi, hz0, hz1, hz2⟩ := info_parts infoB
  obtain ⟨v', w', hr', h2, h3, h4⟩ := run_app (P := Try.prog) w base 183 o.type 5 i0 (.int .u8 0) 1 1 Try.underlying183 hi hz0 hz1 hz2 rfl (by decide) v l.length (u8s l) hown.1 ad m c (u8s l2) (rds_of_bytes hr) (u8s_one _) (by unfold maxLen; omega) (by omega) hbase
  unfold Oper.wp execOp
  simp only [ho, resolve, invoke, builtin, Sem.run_bind, Sem.run_pure, Result.andThen_ok, List.map_toArray, List.map_cons, List.map_nil, hs, hx, hr']
  refine h v' w' ⟨by rw [u8s_append, List.length_append, hr.1]; exact h2, fun c hc => ?_⟩ (below_of_grown hown hbase h3) ((Mod.refl _ _).grown h3 (fun k hk _ => own_ge hown hk))
  rcases List.mem_append.1 hc with h5 | h5
  · exact hown.2 c h5
  · exact hr.2.1 c h5
set_option maxRecDepth 100000 in
set_option maxHeartbeats 4000000 in
theorem refKbytes_any (k : Ky) (w : World) : Calls Try.prog 114 #[.agg (kc k)] w fun e w' => ∃ v, e = .returned v ∧ OB w' w.heap.size v (kbytes k) ∧ Below w.heap.size w w' := by
  have HK := Lib.hid (show kbytes k = if kvld k then ([k.proto, kind k] ++ abytes k.src ++ abytes k.dst) ++ [k.sp / 256, k.sp % 256] ++ [k.dp / 256, k.dp % 256] else [] from rfl)
  cases hv : kvld k
  · rw [hv] at HK
    go_enter Try.func114, Try.ntmps114
    go_wp2_with fail
    refine (refKvalid_any k _).mono ?_
    rintro e w1 ⟨rfl, hb⟩
    rw [hv]
    go_wp2_with fail
    go_ret
    exact ⟨_, rfl, by rw [HK.out]; exact OB.nil _ _, step_below ((Below.refl _ _).alloc (Nat.le_refl _) _) hb⟩
  · rw [hv, if_pos rfl] at HK
    have HKD : Hid (kind k = if k.src.v6 then 6 else 4) := Lib.hid rfl
    have hkl := kind_lt k
    cases h6 : k.src.v6
    · rw [h6] at HKD
      go_enter Try.func114, Try.ntmps114
      go_wp2_with fail
      refine (refKvalid_any k _).mono ?_
      rintro e w1 ⟨rfl, hb⟩
      rw [hv]
      have hA := (At.new w 31 (kc k)).below hb (by simp)
      have HB1 := Lib.hid (step_below ((Below.refl _ w).alloc (Nat.le_refl _) _) hb)
      have hr := hA.row
      have ho := hA.open
      have hl := hA.lt
      have c18 := hA.cell 1
      have c0 := hA.cell 0
      rw [kc_1?] at c18
      rw [kc_0?] at c0
      obtain ⟨g, hg⟩ : ∃ g, g = w.heap.size := ⟨_, rfl⟩
      rw [← hg] at hr ho hl c18 c0 hA
      rw [← hg]
      have HA := Lib.hid hA
      have HG := Lib.hid hg
      clear hb hA hg
      go_upto_region 6 with fail
      go_cut [4] (fun s4 wx => ∃ v, s4 = v ∧ OB wx w.heap.size v ([k.proto, 4] ++ abytes k.src ++ abytes k.dst) ∧ Below w1.heap.size w1 wx)
      case first =>
        refine region_sq_till (fun i => w1.heap.size ≤ i) [(0, true), (1, true), (2, true), (4, true), (5, true), (8, true), (9, true)] 6 (by kernel_rfl) (by kernel_rfl) (fun _ _ d _ _ h => by cases d <;> exact h) ?_
        repeat (first
          | (refine sq_yes rfl (by rfl) (fun w' hM => by ((try replace hM := hM.of_drew); obtain ⟨hR1, hR2, hR3⟩ := hM.rules; clear hM; go_simp; with_reducible rfl)) ?_; simp only [Act.put, List.setIfInBounds_toArray, List.set_cons_zero, List.set_cons_succ])
          | (refine sq_no rfl (by rfl) ?_; simp only [Act.put, List.setIfInBounds_toArray, List.set_cons_zero, List.set_cons_succ]))
        refine sq_end ?_
        have HW0 := Lib.hid ((Below.refl w1.heap.size w1).drew)
        have hgd : g < w1.drew.heap.size := hl
        clear hr ho hl c18 c0 HA
        generalize w1.drew = W0 at *
        refine any_two (n := 5) 3 6 (by kernel_rfl) ?_ ?_
        · refine sq_do_yes rfl (by rfl) (fun K hK => ?_)
          go_wp2_with fail
          obtain ⟨g3, hg3⟩ : ∃ g, g = W0.heap.size := ⟨_, rfl⟩
          have o3_1 : OB (W0.alloc (.cells #[.int .u8 k.proto, .int .u8 4] 5)) g3 (.slice (some ⟨g3, 0, none⟩) 2 2) [k.proto, 4] := OB.two W0 k.proto 4 k.hp (by omega) g3 hg3
          have b0 : Below W0.heap.size W0 (W0.alloc (.cells #[.int .u8 k.proto, .int .u8 4] 5)) := (Below.refl _ _).alloc (Nat.le_refl _) _
          have gm1 : g3 < (W0.alloc (.cells #[.int .u8 k.proto, .int .u8 4] 5)).heap.size := by rw [hg3]; simp
          have gl3 : w1.heap.size ≤ g3 := by rw [hg3]; exact HW0.out.size
          rw [← hg3]
          clear hg3
          generalize W0.alloc (.cells #[.int .u8 k.proto, .int .u8 4] 5) = W1 at *
          refine ⟨Mod.of_below b0, ?_⟩
          have HW1 := Lib.hid (HW0.out.trans (b0.mono HW0.out.size))
          clear b0
          refine sq_end ?_
          refine any_sq (n := 0) [(6, false), (7, false), (10, false), (11, false), (12, true)] (by kernel_rfl) (fun _ _ d _ _ h => by cases d <;> exact h) ?_
          refine sq_do_yes rfl (by rfl) (fun K hK => ?_)
          go_wp2_with fail
          refine (refBytes_any k.src _).mono ?_
          rintro e W2 ⟨v, rfl, ho, b1⟩
          obtain ⟨a6, n6, c6, rfl, hn6, y6_2, _⟩ := ho.parts
          have hm6 : n6 ≤ 16 := by rw [hn6, abytes_length]; split <;> omega
          clear ho hn6
          go_wp2_with fail
          refine ⟨Mod.of_below b1, ?_⟩
          have o3_2 := o3_1.below b1
          clear o3_1
          have HW2 := Lib.hid (HW1.out.trans (b1.mono HW1.out.size))
          have gm2 := Nat.lt_of_lt_of_le gm1 b1.size
          clear b1
          refine sq_do_yes rfl (by rfl) (fun K hK => ?_)
          refine wp_appb (g3) _ _ o3_2 a6 n6 c6 _ y6_2 (by simp; omega) (Nat.le_of_lt gm2) rfl rfl rfl rfl ?_
          intro v7 W3 o7 b2 m2
          go_wp2_with fail
          refine ⟨m2.mono (fun i _ h => Nat.le_trans gl3 h), ?_⟩
          have gm3 := Nat.lt_of_lt_of_le gm2 m2.size
          have HW3 := Lib.hid (HW2.out.trans (b2.mono gl3))
          obtain ⟨a7, n7, c7, rfl, hn7, _, _⟩ := o7.parts
          have hm7 : n7 ≤ 18 := by rw [hn7, List.length_append, y6_2.1]; simp; omega
          clear hn7 b2 m2 y6_2
          refine sq_do_yes rfl (by rfl) (fun K hK => ?_)
          go_wp2_with fail
          refine (refBytes_any k.dst _).mono ?_
          rintro e W4 ⟨v, rfl, ho, b3⟩
          obtain ⟨a10, n10, c10, rfl, hn10, y10_4, _⟩ := ho.parts
          have hm10 : n10 ≤ 16 := by rw [hn10, abytes_length]; split <;> omega
          clear ho hn10
          go_wp2_with fail
          refine ⟨Mod.of_below b3, ?_⟩
          have o7_4 := o7.below b3
          clear o7
          have HW4 := Lib.hid (HW3.out.trans (b3.mono HW3.out.size))
          have gm4 := Nat.lt_of_lt_of_le gm3 b3.size
          clear b3
          refine sq_do_yes rfl (by rfl) (fun K hK => ?_)
          refine wp_appb (g3) _ _ o7_4 a10 n10 c10 _ y10_4 (by have := abytes_length k.src; simp only [List.length_append, List.length_cons, List.length_nil]; split at this <;> omega) (Nat.le_of_lt gm4) rfl rfl rfl rfl ?_
          intro v11 W5 o11 b4 m4
          go_wp2_with fail
          refine ⟨m4.mono (fun i _ h => Nat.le_trans gl3 h), ?_⟩
          have HW5 := Lib.hid (HW4.out.trans (b4.mono gl3))
          repeat (first
            | (refine sq_yes rfl (by rfl) (fun w' hM => by ((try replace hM := hM.of_drew); obtain ⟨hR1, hR2, hR3⟩ := hM.rules; clear hM; go_simp; with_reducible rfl)) ?_; simp only [Act.put, List.setIfInBounds_toArray, List.set_cons_zero, List.set_cons_succ])
            | (refine sq_no rfl (by rfl) ?_; simp only [Act.put, List.setIfInBounds_toArray, List.set_cons_zero, List.set_cons_succ]))
          refine sq_end ?_
          refine any_end (by kernel_rfl) ?_
          go_wp2_with fail
          go_meet
          exact ⟨_, rfl, o11.base (b' := w.heap.size) (Nat.le_trans HB1.out.size gl3), HW5.out⟩
        · refine sq_do_yes rfl (by rfl) (fun K hK => ?_)
          go_wp2_with fail
          refine (refBytes_any k.src _).mono ?_
          rintro e W1 ⟨v, rfl, ho, b0⟩
          obtain ⟨a6, n6, c6, rfl, hn6, y6_1, _⟩ := ho.parts
          have hm6 : n6 ≤ 16 := by rw [hn6, abytes_length]; split <;> omega
          clear ho hn6
          go_wp2_with fail
          refine ⟨Mod.of_below b0, ?_⟩
          have HW1 := Lib.hid (HW0.out.trans (b0.mono HW0.out.size))
          clear b0
          refine sq_end ?_
          refine any_sq (n := 0) [(3, false), (7, false), (10, false), (11, false), (12, true)] (by kernel_rfl) (fun _ _ d _ _ h => by cases d <;> exact h) ?_
          refine sq_do_yes rfl (by rfl) (fun K hK => ?_)
          go_wp2_with fail
          obtain ⟨g3, hg3⟩ : ∃ g, g = W1.heap.size := ⟨_, rfl⟩
          have o3_2 : OB (W1.alloc (.cells #[.int .u8 k.proto, .int .u8 4] 5)) g3 (.slice (some ⟨g3, 0, none⟩) 2 2) [k.proto, 4] := OB.two W1 k.proto 4 k.hp (by omega) g3 hg3
          have b1 : Below W1.heap.size W1 (W1.alloc (.cells #[.int .u8 k.proto, .int .u8 4] 5)) := (Below.refl _ _).alloc (Nat.le_refl _) _
          have gm2 : g3 < (W1.alloc (.cells #[.int .u8 k.proto, .int .u8 4] 5)).heap.size := by rw [hg3]; simp
          have gl3 : w1.heap.size ≤ g3 := by rw [hg3]; exact HW1.out.size
          rw [← hg3]
          clear hg3
          generalize W1.alloc (.cells #[.int .u8 k.proto, .int .u8 4] 5) = W2 at *
          refine ⟨Mod.of_below b1, ?_⟩
          have y6_2 := y6_1.below b1
          clear y6_1
          have HW2 := Lib.hid (HW1.out.trans (b1.mono HW1.out.size))
          clear b1
          refine sq_do_yes rfl (by rfl) (fun K hK => ?_)
          refine wp_appb (g3) _ _ o3_2 a6 n6 c6 _ y6_2 (by simp; omega) (Nat.le_of_lt gm2) rfl rfl rfl rfl ?_
          intro v7 W3 o7 b2 m2
          go_wp2_with fail
          refine ⟨m2.mono (fun i _ h => Nat.le_trans gl3 h), ?_⟩
          have gm3 := Nat.lt_of_lt_of_le gm2 m2.size
          have HW3 := Lib.hid (HW2.out.trans (b2.mono gl3))
          obtain ⟨a7, n7, c7, rfl, hn7, _, _⟩ := o7.parts
          have hm7 : n7 ≤ 18 := by rw [hn7, List.length_append, y6_2.1]; simp; omega
          clear hn7 b2 m2 y6_2
          refine sq_do_yes rfl (by rfl) (fun K hK => ?_)
          go_wp2_with fail
          refine (refBytes_any k.dst _).mono ?_
          rintro e W4 ⟨v, rfl, ho, b3⟩
          obtain ⟨a10, n10, c10, rfl, hn10, y10_4, _⟩ := ho.parts
          have hm10 : n10 ≤ 16 := by rw [hn10, abytes_length]; split <;> omega
          clear ho hn10
          go_wp2_with fail
          refine ⟨Mod.of_below b3, ?_⟩
          have o7_4 := o7.below b3
          clear o7
          have HW4 := Lib.hid (HW3.out.trans (b3.mono HW3.out.size))
          have gm4 := Nat.lt_of_lt_of_le gm3 b3.size
          clear b3
          refine sq_do_yes rfl (by rfl) (fun K hK => ?_)
          refine wp_appb (g3) _ _ o7_4 a10 n10 c10 _ y10_4 (by have := abytes_length k.src; simp only [List.length_append, List.length_cons, List.length_nil]; split at this <;> omega) (Nat.le_of_lt gm4) rfl rfl rfl rfl ?_
          intro v11 W5 o11 b4 m4
          go_wp2_with fail
          refine ⟨m4.mono (fun i _ h => Nat.le_trans gl3 h), ?_⟩
          have HW5 := Lib.hid (HW4.out.trans (b4.mono gl3))
          repeat (first
            | (refine sq_yes rfl (by rfl) (fun w' hM => by ((try replace hM := hM.of_drew); obtain ⟨hR1, hR2, hR3⟩ := hM.rules; clear hM; go_simp; with_reducible rfl)) ?_; simp only [Act.put, List.setIfInBounds_toArray, List.set_cons_zero, List.set_cons_succ])
            | (refine sq_no rfl (by rfl) ?_; simp only [Act.put, List.setIfInBounds_toArray, List.set_cons_zero, List.set_cons_succ]))
          refine sq_end ?_
          refine any_end (by kernel_rfl) ?_
          go_wp2_with fail
          go_meet
          exact ⟨_, rfl, o11.base (b' := w.heap.size) (Nat.le_trans HB1.out.size gl3), HW5.out⟩
      case rest =>
        obtain ⟨v, rfl, ho4, hb⟩ := hcut
        have hA := HA.out.below hb HA.out.lt
        have HB2 := Lib.hid (step_below HB1.out hb)
        obtain ⟨l4, hl4⟩ : ∃ l4, l4 = [k.proto, 4] ++ abytes k.src ++ abytes k.dst := ⟨_, rfl⟩
        rw [← hl4] at ho4
        have HL4 := Lib.hid (show [k.proto, kind k] ++ abytes k.src ++ abytes k.dst = l4 by rw [hl4, HKD.out]; rfl)
        have hn : l4.length ≤ 34 := by rw [hl4]; simp [abytes_length]; split <;> split <;> omega
        have Y4 := Lib.hid ho4
        clear hr ho hl c18 c0 HA hb ho4 hl4
        have c35 := hA.cell 35
        have c36 := hA.cell 36
        rw [kc_35?] at c35
        rw [kc_36?] at c36
        have hl := hA.lt
        have HA := Lib.hid hA
        clear hA
        have k1 := k.hs
        have k2 := k.hd
        go_wp2_with (at_builtin; go_loud (refine wpList_appb _ rfl _ _ rfl w.heap.size _ l4 rfl (Y4.out.below ((Below.refl _ _).alloc (Nat.le_refl _) _)) (some ⟨wc.heap.size, 0, none⟩) 4 4 [k.sp / 256, k.sp % 256, k.dp / 256, k.dp % 256] rfl (bytes_ports wc k.sp k.dp k.hs k.hd _ rfl _) (by omega) (by have := HB2.out.size; simp; omega) ?_; intro v' w3 ho3 hb3 _))
        go_ret
        exact ⟨_, rfl, by rw [HK.out, HL4.out, List.append_assoc]; exact ho3, (HB2.out.alloc HB2.out.size _).trans hb3⟩
    · rw [h6] at HKD
      go_enter Try.func114, Try.ntmps114
      go_wp2_with fail
      refine (refKvalid_any k _).mono ?_
      rintro e w1 ⟨rfl, hb⟩
      rw [hv]
      have hA := (At.new w 31 (kc k)).below hb (by simp)
      have HB1 := Lib.hid (step_below ((Below.refl _ w).alloc (Nat.le_refl _) _) hb)
      have hr := hA.row
      have ho := hA.open
      have hl := hA.lt
      have c18 := hA.cell 1
      have c0 := hA.cell 0
      rw [kc_1?] at c18
      rw [kc_0?] at c0
      obtain ⟨g, hg⟩ : ∃ g, g = w.heap.size := ⟨_, rfl⟩
      rw [← hg] at hr ho hl c18 c0 hA
      rw [← hg]
      have HA := Lib.hid hA
      have HG := Lib.hid hg
      clear hb hA hg
      go_upto_region 6 with fail
      go_cut [4] (fun s4 wx => ∃ v, s4 = v ∧ OB wx w.heap.size v ([k.proto, 6] ++ abytes k.src ++ abytes k.dst) ∧ Below w1.heap.size w1 wx)
      case first =>
        refine region_sq_till (fun i => w1.heap.size ≤ i) [(0, true), (1, true), (2, true), (4, true), (5, true), (8, true), (9, true)] 6 (by kernel_rfl) (by kernel_rfl) (fun _ _ d _ _ h => by cases d <;> exact h) ?_
        repeat (first
          | (refine sq_yes rfl (by rfl) (fun w' hM => by ((try replace hM := hM.of_drew); obtain ⟨hR1, hR2, hR3⟩ := hM.rules; clear hM; go_simp; with_reducible rfl)) ?_; simp only [Act.put, List.setIfInBounds_toArray, List.set_cons_zero, List.set_cons_succ])
          | (refine sq_no rfl (by rfl) ?_; simp only [Act.put, List.setIfInBounds_toArray, List.set_cons_zero, List.set_cons_succ]))
        refine sq_end ?_
        have HW0 := Lib.hid ((Below.refl w1.heap.size w1).drew)
        have hgd : g < w1.drew.heap.size := hl
        clear hr ho hl c18 c0 HA
        generalize w1.drew = W0 at *
        refine any_two (n := 5) 3 6 (by kernel_rfl) ?_ ?_
        · refine sq_do_yes rfl (by rfl) (fun K hK => ?_)
          go_wp2_with fail
          obtain ⟨g3, hg3⟩ : ∃ g, g = W0.heap.size := ⟨_, rfl⟩
          have o3_1 : OB (W0.alloc (.cells #[.int .u8 k.proto, .int .u8 6] 5)) g3 (.slice (some ⟨g3, 0, none⟩) 2 2) [k.proto, 6] := OB.two W0 k.proto 6 k.hp (by omega) g3 hg3
          have b0 : Below W0.heap.size W0 (W0.alloc (.cells #[.int .u8 k.proto, .int .u8 6] 5)) := (Below.refl _ _).alloc (Nat.le_refl _) _
          have gm1 : g3 < (W0.alloc (.cells #[.int .u8 k.proto, .int .u8 6] 5)).heap.size := by rw [hg3]; simp
          have gl3 : w1.heap.size ≤ g3 := by rw [hg3]; exact HW0.out.size
          rw [← hg3]
          clear hg3
          generalize W0.alloc (.cells #[.int .u8 k.proto, .int .u8 6] 5) = W1 at *
          refine ⟨Mod.of_below b0, ?_⟩
          have HW1 := Lib.hid (HW0.out.trans (b0.mono HW0.out.size))
          clear b0
          refine sq_end ?_
          refine any_sq (n := 0) [(6, false), (7, false), (10, false), (11, false), (12, true)] (by kernel_rfl) (fun _ _ d _ _ h => by cases d <;> exact h) ?_
          refine sq_do_yes rfl (by rfl) (fun K hK => ?_)
          go_wp2_with fail
          refine (refBytes_any k.src _).mono ?_
          rintro e W2 ⟨v, rfl, ho, b1⟩
          obtain ⟨a6, n6, c6, rfl, hn6, y6_2, _⟩ := ho.parts
          have hm6 : n6 ≤ 16 := by rw [hn6, abytes_length]; split <;> omega
          clear ho hn6
          go_wp2_with fail
          refine ⟨Mod.of_below b1, ?_⟩
          have o3_2 := o3_1.below b1
          clear o3_1
          have HW2 := Lib.hid (HW1.out.trans (b1.mono HW1.out.size))
          have gm2 := Nat.lt_of_lt_of_le gm1 b1.size
          clear b1
          refine sq_do_yes rfl (by rfl) (fun K hK => ?_)
          refine wp_appb (g3) _ _ o3_2 a6 n6 c6 _ y6_2 (by simp; omega) (Nat.le_of_lt gm2) rfl rfl rfl rfl ?_
          intro v7 W3 o7 b2 m2
          go_wp2_with fail
          refine ⟨m2.mono (fun i _ h => Nat.le_trans gl3 h), ?_⟩
          have gm3 := Nat.lt_of_lt_of_le gm2 m2.size
          have HW3 := Lib.hid (HW2.out.trans (b2.mono gl3))
          obtain ⟨a7, n7, c7, rfl, hn7, _, _⟩ := o7.parts
          have hm7 : n7 ≤ 18 := by rw [hn7, List.length_append, y6_2.1]; simp; omega
          clear hn7 b2 m2 y6_2
          refine sq_do_yes rfl (by rfl) (fun K hK => ?_)
          go_wp2_with fail
          refine (refBytes_any k.dst _).mono ?_
          rintro e W4 ⟨v, rfl, ho, b3⟩
          obtain ⟨a10, n10, c10, rfl, hn10, y10_4, _⟩ := ho.parts
          have hm10 : n10 ≤ 16 := by rw [hn10, abytes_length]; split <;> omega
          clear ho hn10
          go_wp2_with fail
          refine ⟨Mod.of_below b3, ?_⟩
          have o7_4 := o7.below b3
          clear o7
          have HW4 := Lib.hid (HW3.out.trans (b3.mono HW3.out.size))
          have gm4 := Nat.lt_of_lt_of_le gm3 b3.size
          clear b3
          refine sq_do_yes rfl (by rfl) (fun K hK => ?_)
          refine wp_appb (g3) _ _ o7_4 a10 n10 c10 _ y10_4 (by have := abytes_length k.src; simp only [List.length_append, List.length_cons, List.length_nil]; split at this <;> omega) (Nat.le_of_lt gm4) rfl rfl rfl rfl ?_
          intro v11 W5 o11 b4 m4
          go_wp2_with fail
          refine ⟨m4.mono (fun i _ h => Nat.le_trans gl3 h), ?_⟩
          have HW5 := Lib.hid (HW4.out.trans (b4.mono gl3))
          repeat (first
            | (refine sq_yes rfl (by rfl) (fun w' hM => by ((try replace hM := hM.of_drew); obtain ⟨hR1, hR2, hR3⟩ := hM.rules; clear hM; go_simp; with_reducible rfl)) ?_; simp only [Act.put, List.setIfInBounds_toArray, List.set_cons_zero, List.set_cons_succ])
            | (refine sq_no rfl (by rfl) ?_; simp only [Act.put, List.setIfInBounds_toArray, List.set_cons_zero, List.set_cons_succ]))
          refine sq_end ?_
          refine any_end (by kernel_rfl) ?_
          go_wp2_with fail
          go_meet
          exact ⟨_, rfl, o11.base (b' := w.heap.size) (Nat.le_trans HB1.out.size gl3), HW5.out⟩
        · refine sq_do_yes rfl (by rfl) (fun K hK => ?_)
          go_wp2_with fail
          refine (refBytes_any k.src _).mono ?_
          rintro e W1 ⟨v, rfl, ho, b0⟩
          obtain ⟨a6, n6, c6, rfl, hn6, y6_1, _⟩ := ho.parts
          have hm6 : n6 ≤ 16 := by rw [hn6, abytes_length]; split <;> omega
          clear ho hn6
          go_wp2_with fail
          refine ⟨Mod.of_below b0, ?_⟩
          have HW1 := Lib.hid (HW0.out.trans (b0.mono HW0.out.size))
          clear b0
          refine sq_end ?_
          refine any_sq (n := 0) [(3, false), (7, false), (10, false), (11, false), (12, true)] (by kernel_rfl) (fun _ _ d _ _ h => by cases d <;> exact h) ?_
          refine sq_do_yes rfl (by rfl) (fun K hK => ?_)
          go_wp2_with fail
          obtain ⟨g3, hg3⟩ : ∃ g, g = W1.heap.size := ⟨_, rfl⟩
          have o3_2 : OB (W1.alloc (.cells #[.int .u8 k.proto, .int .u8 6] 5)) g3 (.slice (some ⟨g3, 0, none⟩) 2 2) [k.proto, 6] := OB.two W1 k.proto 6 k.hp (by omega) g3 hg3
          have b1 : Below W1.heap.size W1 (W1.alloc (.cells #[.int .u8 k.proto, .int .u8 6] 5)) := (Below.refl _ _).alloc (Nat.le_refl _) _
          have gm2 : g3 < (W1.alloc (.cells #[.int .u8 k.proto, .int .u8 6] 5)).heap.size := by rw [hg3]; simp
          have gl3 : w1.heap.size ≤ g3 := by rw [hg3]; exact HW1.out.size
          rw [← hg3]
          clear hg3
          generalize W1.alloc (.cells #[.int .u8 k.proto, .int .u8 6] 5) = W2 at *
          refine ⟨Mod.of_below b1, ?_⟩
          have y6_2 := y6_1.below b1
          clear y6_1
          have HW2 := Lib.hid (HW1.out.trans (b1.mono HW1.out.size))
          clear b1
          refine sq_do_yes rfl (by rfl) (fun K hK => ?_)
          refine wp_appb (g3) _ _ o3_2 a6 n6 c6 _ y6_2 (by simp; omega) (Nat.le_of_lt gm2) rfl rfl rfl rfl ?_
          intro v7 W3 o7 b2 m2
          go_wp2_with fail
          refine ⟨m2.mono (fun i _ h => Nat.le_trans gl3 h), ?_⟩
          have gm3 := Nat.lt_of_lt_of_le gm2 m2.size
          have HW3 := Lib.hid (HW2.out.trans (b2.mono gl3))
          obtain ⟨a7, n7, c7, rfl, hn7, _, _⟩ := o7.parts
          have hm7 : n7 ≤ 18 := by rw [hn7, List.length_append, y6_2.1]; simp; omega
          clear hn7 b2 m2 y6_2
          refine sq_do_yes rfl (by rfl) (fun K hK => ?_)
          go_wp2_with fail
          refine (refBytes_any k.dst _).mono ?_
          rintro e W4 ⟨v, rfl, ho, b3⟩
          obtain ⟨a10, n10, c10, rfl, hn10, y10_4, _⟩ := ho.parts
          have hm10 : n10 ≤ 16 := by rw [hn10, abytes_length]; split <;> omega
          clear ho hn10
          go_wp2_with fail
          refine ⟨Mod.of_below b3, ?_⟩
          have o7_4 := o7.below b3
          clear o7
          have HW4 := Lib.hid (HW3.out.trans (b3.mono HW3.out.size))
          have gm4 := Nat.lt_of_lt_of_le gm3 b3.size
          clear b3
          refine sq_do_yes rfl (by rfl) (fun K hK => ?_)
          refine wp_appb (g3) _ _ o7_4 a10 n10 c10 _ y10_4 (by have := abytes_length k.src; simp only [List.length_append, List.length_cons, List.length_nil]; split at this <;> omega) (Nat.le_of_lt gm4) rfl rfl rfl rfl ?_
          intro v11 W5 o11 b4 m4
          go_wp2_with fail
          refine ⟨m4.mono (fun i _ h => Nat.le_trans gl3 h), ?_⟩
          have HW5 := Lib.hid (HW4.out.trans (b4.mono gl3))
          repeat (first
            | (refine sq_yes rfl (by rfl) (fun w' hM => by ((try replace hM := hM.of_drew); obtain ⟨hR1, hR2, hR3⟩ := hM.rules; clear hM; go_simp; with_reducible rfl)) ?_; simp only [Act.put, List.setIfInBounds_toArray, List.set_cons_zero, List.set_cons_succ])
            | (refine sq_no rfl (by rfl) ?_; simp only [Act.put, List.setIfInBounds_toArray, List.set_cons_zero, List.set_cons_succ]))
          refine sq_end ?_
          refine any_end (by kernel_rfl) ?_
          go_wp2_with fail
          go_meet
          exact ⟨_, rfl, o11.base (b' := w.heap.size) (Nat.le_trans HB1.out.size gl3), HW5.out⟩
      case rest =>
        obtain ⟨v, rfl, ho4, hb⟩ := hcut
        have hA := HA.out.below hb HA.out.lt
        have HB2 := Lib.hid (step_below HB1.out hb)
        obtain ⟨l4, hl4⟩ : ∃ l4, l4 = [k.proto, 6] ++ abytes k.src ++ abytes k.dst := ⟨_, rfl⟩
        rw [← hl4] at ho4
        have HL4 := Lib.hid (show [k.proto, kind k] ++ abytes k.src ++ abytes k.dst = l4 by rw [hl4, HKD.out]; rfl)
        have hn : l4.length ≤ 34 := by rw [hl4]; simp [abytes_length]; split <;> split <;> omega
        have Y4 := Lib.hid ho4
        clear hr ho hl c18 c0 HA hb ho4 hl4
        have c35 := hA.cell 35
        have c36 := hA.cell 36
        rw [kc_35?] at c35
        rw [kc_36?] at c36
        have hl := hA.lt
        have HA := Lib.hid hA
        clear hA
        have k1 := k.hs
        have k2 := k.hd
        go_wp2_with (at_builtin; go_loud (refine wpList_appb _ rfl _ _ rfl w.heap.size _ l4 rfl (Y4.out.below ((Below.refl _ _).alloc (Nat.le_refl _) _)) (some ⟨wc.heap.size, 0, none⟩) 4 4 [k.sp / 256, k.sp % 256, k.dp / 256, k.dp % 256] rfl (bytes_ports wc k.sp k.dp k.hs k.hd _ rfl _) (by omega) (by have := HB2.out.size; simp; omega) ?_; intro v' w3 ho3 hb3 _))
        go_ret
        exact ⟨_, rfl, by rw [HK.out, HL4.out, List.append_assoc]; exact ho3, (HB2.out.alloc HB2.out.size _).trans hb3⟩
end Go.Proofs.Ythfgccibiajneaa
