/-
  Texts in one, each behind those that it needs: FamBits, FamCheck, FamCheckB.
-/
import Derived.Test.YthfgccibiajneaaBag
/-
  Slices of integers of the call's own; a family's Bits of a flow, and the document's.
-/
namespace Go.Proofs.Ythfgccibiajneaa
open Go.RowKit
def i64s (l : List Int) : List Value := l.map (.int .i64)
theorem i64s_append (a b : List Int) : i64s (a ++ b) = i64s a ++ i64s b := by simp [i64s]
theorem i64s_one (l : List Int) : ∀ u ∈ i64s l, u.oneCell' = true := by
  intro u hu
  obtain ⟨c, _, rfl⟩ := List.mem_map.1 hu
  rfl
/-- A slice of integers of the call's own. -/
def OI (w : World) (base : Nat) (v : Value) (l : List Int) : Prop := w.ownsRow base 3 1 v l.length (i64s l)
theorem OI.nil (w : World) (base : Nat) : OI w base (.slice none 0 0) [] := ⟨rfl, .inl ⟨rfl, rfl⟩⟩
theorem OI.below {w w' : World} {base : Nat} {v : Value} {l : List Int} (h : OI w base v l) (hb : Below w.heap.size w w') : OI w' base v l := by
  refine ⟨h.1, ?_⟩
  rcases h.2 with h1 | ⟨g, cap, cur, h1, h2, h3, h4⟩
  · exact .inl h1
  · exact .inr ⟨g, cap, cur, h1, h2, (hb.block g (Array.getElem?_eq_some_iff.1 h3).1).trans h3, h4⟩
theorem OI.base {w : World} {b b' : Nat} {v : Value} {l : List Int} (h : OI w b v l) (hb : b' ≤ b) : OI w b' v l := by
  refine ⟨h.1, ?_⟩
  rcases h.2 with h1 | ⟨g, cap, cur, h1, h2, h3⟩
  · exact .inl h1
  · exact .inr ⟨g, cap, cur, h1, Nat.le_trans hb h2, h3⟩
/-- What a slice of integers shows: nil, or its cells. -/
def Ints (w : World) (a : Option Addr) (n : Nat) (l : List Int) : Prop :=
  l.length = n ∧ (0 < n → ∃ b o, a = some ⟨b, o, none⟩ ∧ b < w.heap.size ∧ ∀ i, i < n → w.cell? ⟨b, o + i, none⟩ = some (.int .i64 (l.getD i 0)))
theorem Ints.below {w w' : World} {a : Option Addr} {n : Nat} {l : List Int} (h : Ints w a n l) (hb : Below w.heap.size w w') : Ints w' a n l := by
  refine ⟨h.1, fun hn => ?_⟩
  obtain ⟨b, o, rfl, hlt, hc⟩ := h.2 hn
  exact ⟨b, o, rfl, Nat.lt_of_lt_of_le hlt hb.size, fun i hi => (hb.cell (p := ⟨b, o + i, none⟩) hlt).trans (hc i hi)⟩
theorem OI.parts {w : World} {base : Nat} {v : Value} {l : List Int} (h : OI w base v l) : ∃ a n c, v = .slice a n c ∧ n = l.length ∧ Ints w a n l ∧ n ≤ c := by
  obtain ⟨h1, h2⟩ := h
  rcases h2 with ⟨rfl, h0⟩ | ⟨g, cap, cur, rfl, h4, h5, h6, h7, h8, h9⟩
  · exact ⟨none, 0, 0, rfl, by omega, ⟨by omega, fun hn => by omega⟩, by omega⟩
  · refine ⟨_, l.length, cap, rfl, rfl, ⟨rfl, fun hn => ⟨g, 0, rfl, (Array.getElem?_eq_some_iff.1 h5).1, fun i hi => ?_⟩⟩, h6⟩
    rw [Nat.zero_add, cell_of_row w g i cur _ (0, 0) h5]
    have := congrArg (fun x : List Value => x[i]?) h9
    simp only [List.getElem?_take, Nat.mul_one, if_pos hi, i64s, List.getElem?_map] at this
    rw [← Array.getElem?_toList, this, List.getElem?_eq_getElem hi, List.getD_eq_getElem?_getD, List.getElem?_eq_getElem hi]
    rfl
theorem OI.ge {w : World} {base k : Nat} {v : Value} {l : List Int} (h : OI w base v l) (hk : v.ownBlock = some k) : base ≤ k := by
  rcases h.2 with ⟨rfl, _⟩ | ⟨g, cap, cur, rfl, h2, _⟩
  · cases hk
  · cases hk; exact h2
theorem infoInt : (Try.prog.info? 3).map (fun i => (i.zero, i.size, i.bytes)) = some (some (.int .i64 0), 1, 8) := by kernel_rfl
/-- An append of one integer inside a region that draws: the slice that holds it was made last. -/
theorem wp_appi {o : Oper} {a : Go.Act} {K : Go.Act → World → Prop} {Q : Exit → Go.Act → World → Prop} {w : World} {s x : Operand} (base : Nat) (v : Value) (l : List Int) (y : Int) (g : Nat) (hown : OI (w.alloc (.cells #[.int .i64 y] 3)) base v l)
    (h63 : l.length + 1 ≤ 1000000) (hbase : base ≤ w.heap.size)
    (ho : o.op = .call { callee := .builtin .append, args := #[s, x], argTypes := #[28, 28] }) (_ : o.guard = none) (hs : a.eval s = v) (hx : a.eval x = .slice (some ⟨g, 0, none⟩) 1 1) (hg : g = w.heap.size)
    (h : ∀ v' w', OI w' base v' (l ++ [y]) → Below base (w.alloc (.cells #[.int .i64 y] 3)) w' → Mod (fun i => base ≤ i) (w.alloc (.cells #[.int .i64 y] 3)) w' → K (a.put o.dst v') w') : o.wp Try.prog a (w.alloc (.cells #[.int .i64 y] 3)) K Q := by
  subst hg
  obtain ⟨i0, hi, hz0, hz1, hz2⟩ := info_parts infoInt
  obtain ⟨v', w', hr', h2, h3, h4⟩ := run_app (P := Try.prog) (w.alloc (.cells #[.int .i64 y] 3)) base 28 o.type 3 i0 (.int .i64 0) 1 8 Try.underlying28 hi hz0 hz1 hz2 rfl (by decide) v l.length (i64s l) hown (some ⟨w.heap.size, 0, none⟩) 1 1 [.int .i64 y]
    ⟨rfl, fun _ => ⟨_, rfl, by simp, fun j u hu => by
      match j with
      | 0 =>
        simp at hu
        subst hu
        simp [Addr.add, World.cell?_alloc_new]
      | j + 1 => simp at hu⟩⟩ (fun u hu => by simp at hu; subst hu; rfl) (by unfold maxLen; omega) (by omega) (by simp; omega)
  unfold Oper.wp execOp
  simp only [ho, resolve, invoke, builtin, Sem.run_bind, Sem.run_pure, Result.andThen_ok, List.map_toArray, List.map_cons, List.map_nil, hs, hx, hr']
  refine h v' w' ?_ ((Below.refl base _).grown h3 (by simp; omega) (fun k hk => OI.ge hown hk)) ((Mod.refl _ _).grown h3 (fun k hk _ => OI.ge hown hk))
  show w'.ownsRow base _ 1 v' (l ++ [y]).length (i64s (l ++ [y]))
  rw [i64s_append, List.length_append]
  exact h2
/-- A flow's places in a filter. -/
def bitAt (c : Cf) (k : Ky) (i : Nat) : Int := (hsh c.seed (16 + i) (kbytes k) : Int) % c.bloom
def bitsUpto (c : Cf) (k : Ky) (n : Nat) : List Int := (List.range n).map (bitAt c k)
theorem bitsUpto_succ (c : Cf) (k : Ky) (n : Nat) : bitsUpto c k (n + 1) = bitsUpto c k n ++ [bitAt c k n] := by simp [bitsUpto, List.range_succ]
theorem bitsUpto_length (c : Cf) (k : Ky) (n : Nat) : (bitsUpto c k n).length = n := by simp [bitsUpto]
def bitsOf (c : Cf) (k : Ky) : List Int := if kvld k = true then bitsUpto c k c.hashes.toNat else []
set_option maxRecDepth 100000 in
set_option maxHeartbeats 4000000 in
theorem bits_any (gf : Nat) (c : Cf) (k : Ky) (w : World) (h : At w gf 139 (fc c)) (h1 : 0 ≤ c.hashes) (h2 : c.hashes ≤ 80) (hb1 : 1 ≤ c.bloom) :
    Calls Try.prog 24 #[.pointer (some ⟨gf, 0, none⟩), .agg (kc k)] w fun e w' => ∃ v, e = .returned v ∧ OI w' w.heap.size v (bitsOf c k) ∧ Below w.heap.size w w' := by
  have H := Lib.hid h
  clear h
  cases hv : kvld k
  · have HS := Lib.hid (show bitsOf c k = [] by unfold bitsOf; rw [hv]; rfl)
    go_enter Try.func24, Try.ntmps24
    go_wp2_with fail
    refine (may_any gf k _).mono ?_
    rintro e w1 ⟨rfl, hb⟩
    rw [hv]
    go_wp2_with fail
    go_ret
    exact ⟨_, rfl, by rw [HS.out]; exact OI.nil _ _, step_below ((Below.refl _ w).alloc (Nat.le_refl _) _) hb⟩
  · obtain ⟨N, hN⟩ : ∃ N : Nat, c.hashes = N := ⟨c.hashes.toNat, by omega⟩
    have HS := Lib.hid (show bitsOf c k = bitsUpto c k N by unfold bitsOf; rw [hv, if_pos rfl, hN, Int.toNat_natCast])
    rw [hN] at h1 h2
    go_enter Try.func24, Try.ntmps24
    go_wp2_with fail
    refine (may_any gf k _).mono ?_
    rintro e w1 ⟨rfl, hb⟩
    rw [hv]
    have hA := (At.new w 31 (kc k)).below hb (by simp)
    have hF := ((H.out.alloc (.cells (kc k) 31)).below hb (by have := H.out.lt; simp; omega))
    have HB := Lib.hid (step_below ((Below.refl _ w).alloc (Nat.le_refl _) _) hb)
    obtain ⟨g, hg⟩ : ∃ g, g = w.heap.size := ⟨_, rfl⟩
    rw [← hg] at hA
    rw [← hg]
    have hfl := hF.lt
    have hf4 := hF.cell 4
    rw [fc_get c 4 (by omega), cl_head c 4 (by omega)] at hf4
    simp only [Cf.head, List.getElem?_cons_zero, List.getElem?_cons_succ, hN] at hf4
    have HF := Lib.hid hF
    have HA := Lib.hid hA
    clear hA hb hF hg hN
    go_wp2_with fail
    go_loopw [4, 5, 15] (fun v _ i wr => ∃ n : Nat, n ≤ N ∧ i = .int .i64 n ∧ OI wr w1.heap.size v (bitsUpto c k n) ∧ Below w1.heap.size w1 wr) (fun _ _ i _ => N - (intOf i).toNat)
    case atStart => exact ⟨0, Nat.zero_le _, rfl, OI.nil _ _, Below.refl _ _⟩
    case round =>
      obtain ⟨n, hn, rfl, hoi, hbw⟩ := hrel
      have HOI := Lib.hid hoi
      have HBW := Lib.hid hbw
      clear hoi hbw
      by_cases hlt : n < N
      · have hA := HA.out.below HBW.out HA.out.lt
        have hF := HF.out.below HBW.out HF.out.lt
        have hr := hA.row
        have ho := hA.open
        have hl := hA.lt
        have hfl2 := hF.lt
        have hf3 := hF.cell 3
        rw [fc_get c 3 (by omega), cl_head c 3 (by omega)] at hf3
        simp only [Cf.head, List.getElem?_cons_zero, List.getElem?_cons_succ] at hf3
        have HF2 := Lib.hid hF
        have hz : ¬ c.bloom = 0 := by omega
        have hsm : IntKind.i64.wrap (16 + (n : Int)) = ((16 + n : Nat) : Int) := by rw [IntKind.wrap_i64]; omega
        have hix : ((hsh c.seed (16 + n) (kbytes k) : Nat) : Int).tmod c.bloom = bitAt c k n := Int.tmod_eq_emod_of_nonneg (Int.natCast_nonneg _)
        have HIX := Lib.hid hix
        have hg1 : ¬ (w1.heap.size ≤ g) := by have := HA.out.lt; omega
        have hg2 : ¬ (w1.heap.size ≤ gf) := by have := HF.out.lt; omega
        clear hA hF hix hf4 hfl
        go_wp2_with fail
        refine region_sq (fun i => w1.heap.size ≤ i) [(0, true), (1, true), (2, true), (3, true), (4, true), (6, true), (7, true), (8, true), (9, true), (10, true), (5, false), (11, true), (12, false), (13, false), (14, true)] (by kernel_rfl) (by kernel_rfl) (fun _ _ d _ _ h => by cases d <;> exact h) ?_
        repeat (first
          | (refine sq_yes rfl (by rfl) (fun w' hM => by ((try replace hM := hM.of_drew); obtain ⟨hR1, hR2, hR3⟩ := hM.rules; clear hM; go_simp; with_reducible rfl)) ?_; simp only [Act.put, List.setIfInBounds_toArray, List.set_cons_zero, List.set_cons_succ])
          | (refine sq_no rfl (by rfl) ?_; simp only [Act.put, List.setIfInBounds_toArray, List.set_cons_zero, List.set_cons_succ]))
        clear hsm
        refine sq_do_yes rfl (by rfl) (fun K hK => ?_)
        go_wp2_with fail
        refine (hash_any gf c k (16 + n) (by omega) _ HF2.out.drew).mono ?_
        rintro e w2 ⟨rfl, hb2⟩
        have HB2 := Lib.hid (step_below (Below.refl wr.heap.size wr).drew hb2)
        go_wp2_with fail
        refine ⟨Mod.of_below hb2, ?_⟩
        clear hb2
        have hix := HIX.out
        repeat (first
          | (refine sq_yes rfl (by rfl) (fun w' hM => by ((try replace hM := hM.of_drew); obtain ⟨hR1, hR2, hR3⟩ := hM.rules; clear hM; go_simp; with_reducible rfl)) ?_; simp only [Act.put, List.setIfInBounds_toArray, List.set_cons_zero, List.set_cons_succ])
          | (refine sq_no rfl (by rfl) ?_; simp only [Act.put, List.setIfInBounds_toArray, List.set_cons_zero, List.set_cons_succ]))
        clear hix
        refine sq_do_yes rfl (by rfl) (fun K hK => ?_)
        go_wp2_with fail
        refine ⟨(Mod.refl _ _).alloc _, ?_⟩
        have hlen := bitsUpto_length c k n
        refine sq_do_yes rfl (by rfl) (fun K hK => ?_)
        refine wp_appi w1.heap.size _ (bitsUpto c k n) (bitAt c k n) _ ((HOI.out.below HB2.out).below ((Below.refl _ _).alloc (Nat.le_refl _) _)) (by omega) (by have := HBW.out.size; have := HB2.out.size; omega) rfl rfl rfl rfl rfl ?_
        clear hlen
        intro v4 w4 ho4 hb4 hm4
        have HO4 := Lib.hid ho4
        have HB4 := Lib.hid (((HBW.out.trans (HB2.out.mono HBW.out.size)).alloc (by have := HBW.out.size; have := HB2.out.size; omega) _).trans hb4)
        refine hK _ _ ⟨hm4, ?_⟩
        simp only [Act.put, List.setIfInBounds_toArray, List.set_cons_zero, List.set_cons_succ]
        clear hm4 ho4 hb4
        repeat (first
          | (refine sq_yes rfl (by rfl) (fun w' hM => by ((try replace hM := hM.of_drew); obtain ⟨hR1, hR2, hR3⟩ := hM.rules; clear hM; go_simp; with_reducible rfl)) ?_; simp only [Act.put, List.setIfInBounds_toArray, List.set_cons_zero, List.set_cons_succ])
          | (refine sq_no rfl (by rfl) ?_; simp only [Act.put, List.setIfInBounds_toArray, List.set_cons_zero, List.set_cons_succ]))
        refine sq_end ?_
        go_wp2_with fail
        go_roundw
        case rel => exact ⟨n + 1, by omega, by go_num, by rw [bitsUpto_succ]; exact HO4.out, HB4.out⟩
        case measure => simp [intOf]; omega
      · obtain rfl : n = N := by omega
        go_wp2_with fail
        go_ret
        exact ⟨_, rfl, by rw [HS.out]; exact HOI.out.base HB.out.size, HB.out.trans (HBW.out.mono HB.out.size)⟩
set_option maxRecDepth 100000 in
set_option maxHeartbeats 4000000 in
theorem refBits_any (c : Cf) (k : Ky) (w : World) (h1 : 0 ≤ c.hashes) (h2 : c.hashes ≤ 80) (hb1 : 1 ≤ c.bloom) :
    Calls Try.prog 25 #[.agg (cc c), .agg (kc k)] w fun e w' => ∃ v, e = .returned v ∧ OI w' w.heap.size v (bitsOf c k) ∧ Below w.heap.size w w' := by
  obtain ⟨N, hN⟩ : ∃ N : Nat, c.hashes = N := ⟨c.hashes.toNat, by omega⟩
  have HS := Lib.hid (show bitsOf c k = if kvld k = true then bitsUpto c k N else [] by unfold bitsOf; rw [hN, Int.toNat_natCast])
  rw [hN] at h1 h2
  go_enter Try.func25, Try.ntmps25
  go_wp2_with fail
  have hA := (At.new w 27 (cc c)).alloc (.cells (kc k) 31)
  have hKk := (show At ((w.alloc (.cells (cc c) 27)).alloc (.cells (kc k) 31)) (w.heap.size + 1) 31 (kc k) from at_new _ _ _ _ (by simp))
  obtain ⟨w1, hw1⟩ : ∃ w1, w1 = (w.alloc (.cells (cc c) 27)).alloc (.cells (kc k) 31) := ⟨_, rfl⟩
  have HB := Lib.hid (show Below w.heap.size w w1 by rw [hw1]; exact ((Below.refl _ w).alloc (Nat.le_refl _) _).alloc (by simp) _)
  rw [← hw1] at hA hKk
  rw [← hw1]
  obtain ⟨g, hg⟩ : ∃ g, g = w.heap.size := ⟨_, rfl⟩
  obtain ⟨g2, hg2⟩ : ∃ g, g = w.heap.size + 1 := ⟨_, rfl⟩
  rw [← hg2] at hKk
  rw [← hg] at hA
  rw [← hg2, ← hg]
  have HA := Lib.hid hA
  have HK := Lib.hid hKk
  clear hw1 hg hg2 hA hKk
  go_loopw [5, 6] (fun v i wr => ∃ n : Nat, n ≤ N ∧ i = .int .i64 n ∧ OI wr w1.heap.size v (if kvld k = true then bitsUpto c k n else []) ∧ Below w1.heap.size w1 wr ∧ (kvld k = false → n = 0)) (fun _ i _ => N - (intOf i).toNat)
  case atStart => exact ⟨0, Nat.zero_le _, rfl, by split <;> exact OI.nil _ _, Below.refl _ _, fun _ => rfl⟩
  case round =>
    obtain ⟨n, hn, rfl, hoi, hbw, hnv⟩ := hrel
    have HOI := Lib.hid hoi
    have HBW := Lib.hid hbw
    have HNV := Lib.hid hnv
    clear hoi hbw hnv
    have hA := HA.out.below HBW.out HA.out.lt
    have hKk := HK.out.below HBW.out HK.out.lt
    have hf4 := hA.cell 4
    rw [cl_head c 4 (by omega)] at hf4
    simp only [Cf.head, List.getElem?_cons_zero, List.getElem?_cons_succ, hN] at hf4
    have hr2 := hKk.row
    have ho2 := hKk.open
    have hl2 := hKk.lt
    have hl := hA.lt
    have HA2 := Lib.hid hA
    have HK2 := Lib.hid hKk
    clear hA hKk
    by_cases hlt : n < N
    · cases hv : kvld k
      · have HS0 := Lib.hid (show bitsOf c k = [] by rw [HS.out, hv]; rfl)
        have HOI0 := Lib.hid (show OI wr w1.heap.size u5 [] by have := HOI.out; rw [hv] at this; exact this)
        go_wp2_with fail
        refine (refKvalid_any k _).mono ?_
        rintro e w2 ⟨rfl, hb2⟩
        rw [hv]
        go_wp2_with fail
        go_ret
        exact ⟨_, rfl, by rw [HS0.out]; exact (HOI0.out.below hb2).base HB.out.size, HB.out.trans ((HBW.out.mono HB.out.size).trans (hb2.mono (by have := HB.out.size; have := HBW.out.size; omega)))⟩
      · have HOI0 := Lib.hid (show OI wr w1.heap.size u5 (bitsUpto c k n) by have := HOI.out; rw [hv] at this; exact this)
        go_wp2_with fail
        refine (refKvalid_any k _).mono ?_
        rintro e w2 ⟨rfl, hb2⟩
        rw [hv]
        have hA := HA2.out.below hb2 HA2.out.lt
        have hKk := HK2.out.below hb2 HK2.out.lt
        have HB2 := Lib.hid (HBW.out.trans (hb2.mono HBW.out.size))
        have HOI2 := Lib.hid (HOI0.out.below hb2)
        have hr := hA.row
        have ho := hA.open
        have hl3 := hA.lt
        have hr3 := hKk.row
        have ho3 := hKk.open
        have hl4 := hKk.lt
        have hf3 := hA.cell 3
        rw [cl_head c 3 (by omega)] at hf3
        simp only [Cf.head, List.getElem?_cons_zero, List.getElem?_cons_succ] at hf3
        have hz : ¬ c.bloom = 0 := by omega
        have hsm : IntKind.i64.wrap (16 + (n : Int)) = ((16 + n : Nat) : Int) := by rw [IntKind.wrap_i64]; omega
        have hml := hsh_lt c.seed (16 + n) (kbytes k)
        have HIX := Lib.hid (show ((hsh c.seed (16 + n) (kbytes k) : Nat) : Int).tmod c.bloom = bitAt c k n from Int.tmod_eq_emod_of_nonneg (Int.natCast_nonneg _))
        have q0 : IntKind.i64.wrap ((hsh c.seed (16 + n) (kbytes k) : Nat) : Int) = ((hsh c.seed (16 + n) (kbytes k) : Nat) : Int) := by rw [IntKind.wrap_i64]; omega
        have hg1 : ¬ (w1.heap.size ≤ g) := by have := HA.out.lt; omega
        have hg2 : ¬ (w1.heap.size ≤ g2) := by have := HK.out.lt; omega
        clear hA hKk hb2 hf4 hr2 ho2 hl2 hl
        go_wp2_with fail
        refine region_sq (fun i => w1.heap.size ≤ i) [(0, true), (1, true), (2, true), (3, true), (4, true), (7, true), (8, true), (5, false), (6, true), (9, true), (10, false), (11, false), (12, true)] (by kernel_rfl) (by kernel_rfl) (fun _ _ d _ _ h => by cases d <;> exact h) ?_
        repeat (first
          | (refine sq_yes rfl (by rfl) (fun w' hM => by ((try replace hM := hM.of_drew); obtain ⟨hR1, hR2, hR3⟩ := hM.rules; clear hM; go_simp; with_reducible rfl)) ?_; simp only [Act.put, List.setIfInBounds_toArray, List.set_cons_zero, List.set_cons_succ])
          | (refine sq_no rfl (by rfl) ?_; simp only [Act.put, List.setIfInBounds_toArray, List.set_cons_zero, List.set_cons_succ]))
        clear hsm
        refine sq_do_yes rfl (by rfl) (fun K hK => ?_)
        go_wp2_with fail
        refine (refHash_any c k (16 + n) (by omega) _).mono ?_
        rintro e w3 ⟨rfl, hb3⟩
        have HB3 := Lib.hid (step_below (Below.refl w2.heap.size w2).drew hb3)
        go_wp2_with fail
        refine ⟨Mod.of_below hb3, ?_⟩
        clear hb3
        have hix := HIX.out
        repeat (first
          | (refine sq_yes rfl (by rfl) (fun w' hM => by ((try replace hM := hM.of_drew); obtain ⟨hR1, hR2, hR3⟩ := hM.rules; clear hM; go_simp; with_reducible rfl)) ?_; simp only [Act.put, List.setIfInBounds_toArray, List.set_cons_zero, List.set_cons_succ])
          | (refine sq_no rfl (by rfl) ?_; simp only [Act.put, List.setIfInBounds_toArray, List.set_cons_zero, List.set_cons_succ]))
        clear hix q0
        refine sq_do_yes rfl (by rfl) (fun K hK => ?_)
        go_wp2_with fail
        refine ⟨(Mod.refl _ _).alloc _, ?_⟩
        have hlen := bitsUpto_length c k n
        refine sq_do_yes rfl (by rfl) (fun K hK => ?_)
        refine wp_appi w1.heap.size _ (bitsUpto c k n) (bitAt c k n) _ ((HOI2.out.below HB3.out).below ((Below.refl _ _).alloc (Nat.le_refl _) _)) (by omega) (by have := HB2.out.size; have := HB3.out.size; omega) rfl rfl rfl rfl rfl ?_
        clear hlen
        intro v4 w4 ho4 hb4 hm4
        have HO4 := Lib.hid ho4
        have HB4 := Lib.hid (((HB2.out.trans (HB3.out.mono HB2.out.size)).alloc (by have := HB2.out.size; have := HB3.out.size; omega) _).trans hb4)
        refine hK _ _ ⟨hm4, ?_⟩
        simp only [Act.put, List.setIfInBounds_toArray, List.set_cons_zero, List.set_cons_succ]
        clear hm4 ho4 hb4
        repeat (first
          | (refine sq_yes rfl (by rfl) (fun w' hM => by ((try replace hM := hM.of_drew); obtain ⟨hR1, hR2, hR3⟩ := hM.rules; clear hM; go_simp; with_reducible rfl)) ?_; simp only [Act.put, List.setIfInBounds_toArray, List.set_cons_zero, List.set_cons_succ])
          | (refine sq_no rfl (by rfl) ?_; simp only [Act.put, List.setIfInBounds_toArray, List.set_cons_zero, List.set_cons_succ]))
        refine sq_end ?_
        go_wp2_with fail
        go_roundw
        case rel => exact ⟨n + 1, by omega, by go_num, by rw [bitsUpto_succ]; exact HO4.out, HB4.out, fun hf => absurd hf (by simp)⟩
        case measure => simp [intOf]; omega
    · obtain rfl : n = N := by omega
      have HOI0 := Lib.hid (show OI wr w1.heap.size u5 (bitsOf c k) by have := HOI.out; rw [HS.out]; exact this)
      go_wp2_with fail
      go_ret
      exact ⟨_, rfl, HOI0.out.base HB.out.size, HB.out.trans (HBW.out.mono HB.out.size)⟩
end Go.Proofs.Ythfgccibiajneaa

/-
  May a configuration be? family.Check, and the document's.
-/
namespace Go.Proofs.Ythfgccibiajneaa
open Go.RowKit
def wi (n low high : Int) : Bool := decide (low ≤ n) && decide (n ≤ high)
def pw (n low high : Int) : Bool := wi n low high && (bits .and .i64 n (wrap64 (n - 1)) == 0)
def sizesOk (c : Cf) : Bool := wi c.stages 1 4 && pw c.size 2 1024 && wi c.digest 1 16 && pw c.bloom 8 65536 && wi c.hashes 1 4
def poolsOk (c : Cf) : Bool := wi c.slots 1 64 && wi c.versions 2 16 && wi c.queue 1 256 && wi c.evict 1 64
def timesOk (c : Cf) : Bool := wi c.idle 1 1000 && wi c.linger 1 1000 && wi c.fails 1 10
def ownsOk (c : Cf) : Bool := vld c.own && vld c.own6 && (!c.encap || !c.own.v6 && c.own6.v6)
def cok (c : Cf) : Bool := sizesOk c && poolsOk c && timesOk c && ownsOk c
theorem wi_iff {n low high : Int} : wi n low high = true ↔ low ≤ n ∧ n ≤ high := by simp [wi]
set_option maxRecDepth 100000 in
theorem within_any (n low high : Int) (w : World) : Calls Try.prog 76 #[.int .i64 n, .int .i64 low, .int .i64 high] w fun e w' => e = .returned (.bool (wi n low high)) ∧ w' = w := by
  by_cases h1 : low ≤ n
  · by_cases h2 : n ≤ high
    · have H := Lib.hid (show wi n low high = true by simp [wi, h1, h2])
      go_enter Try.func76, Try.ntmps76
      go_wp2_with fail
      go_ret
      exact ⟨by rw [H.out]; rfl, rfl⟩
    · have H := Lib.hid (show wi n low high = false by simp [wi, h2])
      go_enter Try.func76, Try.ntmps76
      go_wp2_with fail
      go_ret
      exact ⟨by rw [H.out]; rfl, rfl⟩
  · have H := Lib.hid (show wi n low high = false by simp [wi, h1])
    have hd : decide (low ≤ n) = false := by simpa using h1
    go_enter Try.func76, Try.ntmps76
    go_wp2_with fail
    go_ret
    exact ⟨by rw [H.out]; rfl, rfl⟩
set_option maxRecDepth 100000 in
theorem power_any (n low high : Int) (w : World) (hl : 1 ≤ low) (hh : high ≤ 65536) : Calls Try.prog 77 #[.int .i64 n, .int .i64 low, .int .i64 high] w fun e w' => e = .returned (.bool (pw n low high)) ∧ w' = w := by
  cases h : wi n low high
  · have H := Lib.hid (show pw n low high = false by simp [pw, h])
    go_enter Try.func77, Try.ntmps77
    go_wp2_with (refine (within_any _ _ _ _).mono ?_; rintro e w' ⟨rfl, rfl⟩)
    go_ret
    exact ⟨by rw [H.out]; rfl, rfl⟩
  · have hb := wi_iff.1 h
    have hw : wrap64 (n - 1) = n - 1 := IntWalk.wrap64_in _ ⟨by omega, by omega⟩
    have H := Lib.hid (show pw n low high = (bits .and .i64 n (n - 1) == 0) by simp [pw, h, hw])
    clear hw
    go_enter Try.func77, Try.ntmps77
    go_wp2_with (refine (within_any _ _ _ _).mono ?_; rintro e w' ⟨rfl, rfl⟩)
    go_ret
    exact ⟨by rw [H.out]; rfl, rfl⟩
end Go.Proofs.Ythfgccibiajneaa

/-
  family.Check and the document's Check.
-/
namespace Go.Proofs.Ythfgccibiajneaa
open Go.RowKit
/-- What Check tells. -/
def chk (c : Cf) : Int := if cok c = true then 0 else 1
theorem chk_yes (c : Cf) (h : cok c = true) : chk c = 0 := by unfold chk; rw [if_pos h]
theorem chk_no (c : Cf) (h : cok c = false) : chk c = 1 := by unfold chk; rw [h]; rfl
set_option maxRecDepth 100000 in
set_option maxHeartbeats 8000000 in
theorem check_any (c : Cf) (w : World) : Calls Try.prog 13 #[.agg (cc c)] w fun e w' => e = .returned (.int .i64 (chk c)) ∧ Below w.heap.size w w' := by
  have HK := Lib.hid (show chk c = if (sizesOk c && poolsOk c && timesOk c && ownsOk c) = true then 0 else 1 from rfl)
  go_enter Try.func13, Try.ntmps13
  go_upto_region 1 with fail
  go_cut [3] (fun s wx => s = .bool (sizesOk c) ∧ wx = w.alloc (.cells (cc c) 27))
  case first =>
    cases h1 : wi c.stages 1 4
    · go_wp2_with (first
        | (go_at_call 76; refine (within_any _ _ _ _).mono ?_; rintro e w' ⟨rfl, rfl⟩)
        | (go_at_call 77; refine (power_any _ _ _ _ (by omega) (by omega)).mono ?_; rintro e w' ⟨rfl, rfl⟩)
        | (go_at_call 78; refine (valid_any _ _).mono ?_; rintro e w' ⟨rfl, rfl⟩))
      go_meet
      exact ⟨congrArg Value.bool (show _ = sizesOk c by simp [sizesOk, h1]), rfl⟩
    · cases h2 : pw c.size 2 1024
      · go_wp2_with (first
          | (go_at_call 76; refine (within_any _ _ _ _).mono ?_; rintro e w' ⟨rfl, rfl⟩)
          | (go_at_call 77; refine (power_any _ _ _ _ (by omega) (by omega)).mono ?_; rintro e w' ⟨rfl, rfl⟩)
          | (go_at_call 78; refine (valid_any _ _).mono ?_; rintro e w' ⟨rfl, rfl⟩))
        go_meet
        exact ⟨congrArg Value.bool (show _ = sizesOk c by simp [sizesOk, h1, h2]), rfl⟩
      · cases h3 : wi c.digest 1 16
        · go_wp2_with (first
            | (go_at_call 76; refine (within_any _ _ _ _).mono ?_; rintro e w' ⟨rfl, rfl⟩)
            | (go_at_call 77; refine (power_any _ _ _ _ (by omega) (by omega)).mono ?_; rintro e w' ⟨rfl, rfl⟩)
            | (go_at_call 78; refine (valid_any _ _).mono ?_; rintro e w' ⟨rfl, rfl⟩))
          go_meet
          exact ⟨congrArg Value.bool (show _ = sizesOk c by simp [sizesOk, h1, h2, h3]), rfl⟩
        · cases h4 : pw c.bloom 8 65536
          · go_wp2_with (first
              | (go_at_call 76; refine (within_any _ _ _ _).mono ?_; rintro e w' ⟨rfl, rfl⟩)
              | (go_at_call 77; refine (power_any _ _ _ _ (by omega) (by omega)).mono ?_; rintro e w' ⟨rfl, rfl⟩)
              | (go_at_call 78; refine (valid_any _ _).mono ?_; rintro e w' ⟨rfl, rfl⟩))
            go_meet
            exact ⟨congrArg Value.bool (show _ = sizesOk c by simp [sizesOk, h1, h2, h3, h4]), rfl⟩
          · cases h5 : wi c.hashes 1 4
            · go_wp2_with (first
                | (go_at_call 76; refine (within_any _ _ _ _).mono ?_; rintro e w' ⟨rfl, rfl⟩)
                | (go_at_call 77; refine (power_any _ _ _ _ (by omega) (by omega)).mono ?_; rintro e w' ⟨rfl, rfl⟩)
                | (go_at_call 78; refine (valid_any _ _).mono ?_; rintro e w' ⟨rfl, rfl⟩))
              go_meet
              exact ⟨congrArg Value.bool (show _ = sizesOk c by simp [sizesOk, h1, h2, h3, h4, h5]), rfl⟩
            · go_wp2_with (first
                | (go_at_call 76; refine (within_any _ _ _ _).mono ?_; rintro e w' ⟨rfl, rfl⟩)
                | (go_at_call 77; refine (power_any _ _ _ _ (by omega) (by omega)).mono ?_; rintro e w' ⟨rfl, rfl⟩)
                | (go_at_call 78; refine (valid_any _ _).mono ?_; rintro e w' ⟨rfl, rfl⟩))
              go_meet
              exact ⟨congrArg Value.bool (show _ = sizesOk c by simp [sizesOk, h1, h2, h3, h4, h5]), rfl⟩
  case' rest => obtain ⟨rfl, rfl⟩ := hcut
  go_upto_region 2 with fail
  go_cut [4] (fun s wx => s = .bool (poolsOk c) ∧ wx = w.alloc (.cells (cc c) 27))
  case first =>
    cases h1 : wi c.slots 1 64
    · go_wp2_with (first
        | (go_at_call 76; refine (within_any _ _ _ _).mono ?_; rintro e w' ⟨rfl, rfl⟩)
        | (go_at_call 77; refine (power_any _ _ _ _ (by omega) (by omega)).mono ?_; rintro e w' ⟨rfl, rfl⟩)
        | (go_at_call 78; refine (valid_any _ _).mono ?_; rintro e w' ⟨rfl, rfl⟩))
      go_meet
      exact ⟨congrArg Value.bool (show _ = poolsOk c by simp [poolsOk, h1]), rfl⟩
    · cases h2 : wi c.versions 2 16
      · go_wp2_with (first
          | (go_at_call 76; refine (within_any _ _ _ _).mono ?_; rintro e w' ⟨rfl, rfl⟩)
          | (go_at_call 77; refine (power_any _ _ _ _ (by omega) (by omega)).mono ?_; rintro e w' ⟨rfl, rfl⟩)
          | (go_at_call 78; refine (valid_any _ _).mono ?_; rintro e w' ⟨rfl, rfl⟩))
        go_meet
        exact ⟨congrArg Value.bool (show _ = poolsOk c by simp [poolsOk, h1, h2]), rfl⟩
      · cases h3 : wi c.queue 1 256
        · go_wp2_with (first
            | (go_at_call 76; refine (within_any _ _ _ _).mono ?_; rintro e w' ⟨rfl, rfl⟩)
            | (go_at_call 77; refine (power_any _ _ _ _ (by omega) (by omega)).mono ?_; rintro e w' ⟨rfl, rfl⟩)
            | (go_at_call 78; refine (valid_any _ _).mono ?_; rintro e w' ⟨rfl, rfl⟩))
          go_meet
          exact ⟨congrArg Value.bool (show _ = poolsOk c by simp [poolsOk, h1, h2, h3]), rfl⟩
        · cases h4 : wi c.evict 1 64
          · go_wp2_with (first
              | (go_at_call 76; refine (within_any _ _ _ _).mono ?_; rintro e w' ⟨rfl, rfl⟩)
              | (go_at_call 77; refine (power_any _ _ _ _ (by omega) (by omega)).mono ?_; rintro e w' ⟨rfl, rfl⟩)
              | (go_at_call 78; refine (valid_any _ _).mono ?_; rintro e w' ⟨rfl, rfl⟩))
            go_meet
            exact ⟨congrArg Value.bool (show _ = poolsOk c by simp [poolsOk, h1, h2, h3, h4]), rfl⟩
          · go_wp2_with (first
              | (go_at_call 76; refine (within_any _ _ _ _).mono ?_; rintro e w' ⟨rfl, rfl⟩)
              | (go_at_call 77; refine (power_any _ _ _ _ (by omega) (by omega)).mono ?_; rintro e w' ⟨rfl, rfl⟩)
              | (go_at_call 78; refine (valid_any _ _).mono ?_; rintro e w' ⟨rfl, rfl⟩))
            go_meet
            exact ⟨congrArg Value.bool (show _ = poolsOk c by simp [poolsOk, h1, h2, h3, h4]), rfl⟩
  case' rest => obtain ⟨rfl, rfl⟩ := hcut
  go_upto_region 3 with fail
  go_cut [5] (fun s wx => s = .bool (timesOk c) ∧ wx = w.alloc (.cells (cc c) 27))
  case first =>
    cases h1 : wi c.idle 1 1000
    · go_wp2_with (first
        | (go_at_call 76; refine (within_any _ _ _ _).mono ?_; rintro e w' ⟨rfl, rfl⟩)
        | (go_at_call 77; refine (power_any _ _ _ _ (by omega) (by omega)).mono ?_; rintro e w' ⟨rfl, rfl⟩)
        | (go_at_call 78; refine (valid_any _ _).mono ?_; rintro e w' ⟨rfl, rfl⟩))
      go_meet
      exact ⟨congrArg Value.bool (show _ = timesOk c by simp [timesOk, h1]), rfl⟩
    · cases h2 : wi c.linger 1 1000
      · go_wp2_with (first
          | (go_at_call 76; refine (within_any _ _ _ _).mono ?_; rintro e w' ⟨rfl, rfl⟩)
          | (go_at_call 77; refine (power_any _ _ _ _ (by omega) (by omega)).mono ?_; rintro e w' ⟨rfl, rfl⟩)
          | (go_at_call 78; refine (valid_any _ _).mono ?_; rintro e w' ⟨rfl, rfl⟩))
        go_meet
        exact ⟨congrArg Value.bool (show _ = timesOk c by simp [timesOk, h1, h2]), rfl⟩
      · cases h3 : wi c.fails 1 10
        · go_wp2_with (first
            | (go_at_call 76; refine (within_any _ _ _ _).mono ?_; rintro e w' ⟨rfl, rfl⟩)
            | (go_at_call 77; refine (power_any _ _ _ _ (by omega) (by omega)).mono ?_; rintro e w' ⟨rfl, rfl⟩)
            | (go_at_call 78; refine (valid_any _ _).mono ?_; rintro e w' ⟨rfl, rfl⟩))
          go_meet
          exact ⟨congrArg Value.bool (show _ = timesOk c by simp [timesOk, h1, h2, h3]), rfl⟩
        · go_wp2_with (first
            | (go_at_call 76; refine (within_any _ _ _ _).mono ?_; rintro e w' ⟨rfl, rfl⟩)
            | (go_at_call 77; refine (power_any _ _ _ _ (by omega) (by omega)).mono ?_; rintro e w' ⟨rfl, rfl⟩)
            | (go_at_call 78; refine (valid_any _ _).mono ?_; rintro e w' ⟨rfl, rfl⟩))
          go_meet
          exact ⟨congrArg Value.bool (show _ = timesOk c by simp [timesOk, h1, h2, h3]), rfl⟩
  case' rest => obtain ⟨rfl, rfl⟩ := hcut
  go_upto_region 4 with fail
  go_cut [6] (fun s wx => s = .bool (ownsOk c) ∧ Below w.heap.size w wx)
  case first =>
    cases h1 : vld c.own
    · go_wp2_with (first
        | (go_at_call 76; refine (within_any _ _ _ _).mono ?_; rintro e w' ⟨rfl, rfl⟩)
        | (go_at_call 77; refine (power_any _ _ _ _ (by omega) (by omega)).mono ?_; rintro e w' ⟨rfl, rfl⟩)
        | (go_at_call 78; refine (valid_any _ _).mono ?_; rintro e w' ⟨rfl, rfl⟩))
      go_meet
      exact ⟨congrArg Value.bool (show _ = ownsOk c by simp [ownsOk, h1]), by repeat (first | exact Below.refl _ _ | refine Below.alloc ?_ (by simp <;> omega) _)⟩
    · cases h2 : vld c.own6
      · go_wp2_with (first
          | (go_at_call 76; refine (within_any _ _ _ _).mono ?_; rintro e w' ⟨rfl, rfl⟩)
          | (go_at_call 77; refine (power_any _ _ _ _ (by omega) (by omega)).mono ?_; rintro e w' ⟨rfl, rfl⟩)
          | (go_at_call 78; refine (valid_any _ _).mono ?_; rintro e w' ⟨rfl, rfl⟩))
        go_meet
        exact ⟨congrArg Value.bool (show _ = ownsOk c by simp [ownsOk, h1, h2]), by repeat (first | exact Below.refl _ _ | refine Below.alloc ?_ (by simp <;> omega) _)⟩
      · cases h3 : c.encap
        · go_wp2_with (first
            | (go_at_call 76; refine (within_any _ _ _ _).mono ?_; rintro e w' ⟨rfl, rfl⟩)
            | (go_at_call 77; refine (power_any _ _ _ _ (by omega) (by omega)).mono ?_; rintro e w' ⟨rfl, rfl⟩)
            | (go_at_call 78; refine (valid_any _ _).mono ?_; rintro e w' ⟨rfl, rfl⟩))
          go_meet
          exact ⟨congrArg Value.bool (show _ = ownsOk c by simp [ownsOk, h1, h2, h3]), by repeat (first | exact Below.refl _ _ | refine Below.alloc ?_ (by simp <;> omega) _)⟩
        · cases h4 : c.own.v6
          · cases h5 : c.own6.v6 <;>
            · go_wp2_with (first
                | (go_at_call 76; refine (within_any _ _ _ _).mono ?_; rintro e w' ⟨rfl, rfl⟩)
                | (go_at_call 77; refine (power_any _ _ _ _ (by omega) (by omega)).mono ?_; rintro e w' ⟨rfl, rfl⟩)
                | (go_at_call 78; refine (valid_any _ _).mono ?_; rintro e w' ⟨rfl, rfl⟩))
              go_meet
              exact ⟨congrArg Value.bool (show _ = ownsOk c by simp [ownsOk, h1, h2, h3, h4, h5]), by repeat (first | exact Below.refl _ _ | refine Below.alloc ?_ (by simp <;> omega) _)⟩
          · go_wp2_with (first
              | (go_at_call 76; refine (within_any _ _ _ _).mono ?_; rintro e w' ⟨rfl, rfl⟩)
              | (go_at_call 77; refine (power_any _ _ _ _ (by omega) (by omega)).mono ?_; rintro e w' ⟨rfl, rfl⟩)
              | (go_at_call 78; refine (valid_any _ _).mono ?_; rintro e w' ⟨rfl, rfl⟩))
            go_meet
            exact ⟨congrArg Value.bool (show _ = ownsOk c by simp [ownsOk, h1, h2, h3, h4]), by repeat (first | exact Below.refl _ _ | refine Below.alloc ?_ (by simp <;> omega) _)⟩
  case rest =>
    obtain ⟨rfl, hb⟩ := hcut
    have HB := Lib.hid hb
    clear hb
    generalize h1 : sizesOk c = b1 at *
    generalize h2 : poolsOk c = b2 at *
    generalize h3 : timesOk c = b3 at *
    generalize h4 : ownsOk c = b4 at *
    cases b1 <;> cases b2 <;> cases b3 <;> cases b4 <;>
    · go_wp2_with fail
      go_ret
      exact ⟨by rw [HK.out]; rfl, HB.out⟩
end Go.Proofs.Ythfgccibiajneaa
