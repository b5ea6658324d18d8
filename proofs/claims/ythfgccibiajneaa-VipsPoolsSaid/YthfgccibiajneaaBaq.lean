/-
  Texts in one, each behind those that it needs: PoSome, RegIn, RegTail.
-/
import Derived.Test.YthfgccibiajneaaBap
import Derived.OrdersIn
import Derived.RangeFuncNested
import Derived.StillTail
/-
  The statements' some: members from a place on.
-/
namespace Go.Proofs.Ythfgccibiajneaa
open Go.RowKit Go.Shelf
/-- The weights. -/
def somW (f : Int) (k : Nat) : List Int := (List.range k).map fun i : Nat => f.tdiv 3 + (i : Int)
theorem somW_snoc (f : Int) (k : Nat) : somW f (k + 1) = somW f k ++ [f.tdiv 3 + k] := by simp [somW, List.range_succ]
def som (f n : Int) : List Mb := (List.range (n % 6).toNat).map fun i : Nat => ⟨adp ((f % 5).toNat + i), 1 + (f.tdiv 3 + (i : Int)) % 16⟩
/-- The first cells of an element set anew. -/
theorem Sl.setPart {α : Type} {k : Nat} {enc : α → List Value} {e : TypeId} {w : World} {B n c : Nat} {L : List α} (hk : ∀ x, (enc x).length = k) {g i : Nat} {x x' : α} {part : List Value} (hp : part.length ≤ k) (hx : L[i]? = some x) (hx' : enc x' = part ++ (enc x).drop part.length) (h : Sl k enc e w B (.slice (some ⟨g, 0, none⟩) n c) L) :
    Sl k enc e (w.setCells g (i * k) part) B (.slice (some ⟨g, 0, none⟩) n c) (L.set i x') := by
  have hi : i < L.length := (List.getElem?_eq_some_iff.1 hx).1
  rcases h.cases with ⟨h1, rfl⟩ | ⟨g', c', cur, h1, h2, h3, h4, h5, h6, h7⟩
  · simp at h1
  · simp only [Value.slice.injEq, Option.some.injEq, Addr.mk.injEq, and_true] at h1
    obtain ⟨rfl, rfl, rfl⟩ := h1
    have hfit : i * k + part.length ≤ cur.size := by
      rw [h6]
      have : (i + 1) * k ≤ c * k := Nat.mul_le_mul_right _ (by omega)
      rw [Nat.succ_mul] at this
      omega
    refine ⟨by rw [flatLen hk, List.length_set], .inr ⟨g, c, splice cur (i * k) part, by rw [List.length_set], h2, At.setCells part (i * k) w cur h3, by rw [List.length_set]; exact h4, h5, by rw [splice_size]; exact h6, ?_⟩⟩
    apply List.ext_getElem?
    intro t
    rw [List.length_set, List.getElem?_take]
    by_cases ht : t < L.length * k
    · have hk0 : 0 < k := Nat.pos_of_ne_zero fun h0 => by subst h0; simp at ht
      have hr : t % k < k := Nat.mod_lt _ hk0
      have hq : t / k * k + t % k = t := by rw [Nat.mul_comm]; exact Nat.div_add_mod t k
      have hql : t / k < L.length := Nat.div_lt_of_lt_mul (by rwa [Nat.mul_comm] at ht)
      have hf := flatGet hk L (t / k) (t % k) hr
      have hf2 := flatGet hk (L.set i x') (t / k) (t % k) hr
      rw [hq, ← h7, List.getElem?_take, if_pos ht, Array.getElem?_toList] at hf
      rw [hq] at hf2
      rw [if_pos ht, Array.getElem?_toList, hf2, splice_get _ _ _ _ hfit, List.getElem?_set]
      by_cases hit : i = t / k
      · subst hit
        rw [if_pos rfl, if_pos hql, Option.bind_some, hx']
        by_cases hj : t % k < part.length
        · rw [if_pos (by omega), List.getElem?_append_left hj]
          congr 1
          omega
        · rw [if_neg (by omega), hf, hx, Option.bind_some, List.getElem?_append_right (by omega), List.getElem?_drop]
          congr 1
          omega
      · rw [if_neg hit, if_neg ?_, hf]
        intro hx
        have h8 : t / k < i + 1 := Nat.div_lt_of_lt_mul (by rw [Nat.mul_comm, Nat.succ_mul]; omega)
        have h9 : i ≤ t / k := (Nat.le_div_iff_mul_le hk0).2 hx.1
        omega
    · rw [if_neg ht, List.getElem?_eq_none]
      rw [flatLen hk, List.length_set]; omega
/-- On the way: the first j have their servers turned. -/
def smx (r : Nat) (q : Int) (k j : Nat) : List Mb := (List.range k).map fun i : Nat => ⟨adp (if i < j then r + i else i), 1 + (q + (i : Int)) % 16⟩
theorem smx_len (r : Nat) (q : Int) (k j : Nat) : (smx r q k j).length = k := by simp [smx]
theorem smx_get (r : Nat) (q : Int) (k j i : Nat) (h : i < k) : (smx r q k j)[i]? = some ⟨adp (if i < j then r + i else i), 1 + (q + (i : Int)) % 16⟩ := by
  unfold smx
  rw [List.getElem?_map, List.getElem?_range h, Option.map_some]
theorem smx_none (r : Nat) (q : Int) (k j i : Nat) (h : ¬ i < k) : (smx r q k j)[i]? = none := List.getElem?_eq_none (by rw [smx_len]; omega)
theorem smx_step (r : Nat) (q : Int) (k j : Nat) : smx r q k (j + 1) = (smx r q k j).set j ⟨adp (r + j), 1 + (q + (j : Int)) % 16⟩ := by
  apply List.ext_getElem?
  intro i
  rw [List.getElem?_set, smx_len]
  by_cases hi : i < k
  · rw [smx_get _ _ _ _ _ hi, smx_get _ _ _ _ _ hi]
    by_cases hj : j = i
    · subst hj
      rw [if_pos rfl, if_pos hi, if_pos (by omega)]
    · rw [if_neg hj]
      by_cases h2 : i < j
      · rw [if_pos h2, if_pos (by omega)]
      · rw [if_neg h2, if_neg (by omega)]
  · rw [smx_none _ _ _ _ _ hi, smx_none _ _ _ _ _ hi]
    split
    · rw [if_neg (by omega)]
    · rfl
theorem smx_srv (r : Nat) (f : Int) (k : Nat) : srv (somW f k) = smx r (f.tdiv 3) k 0 := by
  unfold srv smx somW
  rw [List.length_map, List.length_range]
  refine List.map_congr_left fun i hi => ?_
  have hi := List.mem_range.1 hi
  rw [if_neg (by omega), List.getD_eq_getElem?_getD, List.getElem?_map, List.getElem?_range hi]
  rfl
theorem smx_som (f n : Int) (k : Nat) (hk : n % 6 = k) : smx (f % 5).toNat (f.tdiv 3) k k = som f n := by
  unfold smx som
  rw [hk, Int.toNat_natCast]
  refine List.map_congr_left fun i hi => ?_
  rw [if_pos (List.mem_range.1 hi)]
theorem mc_part (d d' : Dp) (x : Int) : Mb.l ⟨d', x⟩ = (dc d').toList ++ (Mb.l ⟨d, x⟩).drop (dc d').toList.length := by
  have h1 : (dc d').toList = d'.l := by simp [dc]
  rw [h1, Dp.l_length]
  unfold Mb.l
  rw [List.drop_append_of_le_length (by rw [Dp.l_length]; exact Nat.le_refl _), List.drop_of_length_le (by rw [Dp.l_length]; exact Nat.le_refl _), List.nil_append]
set_option maxRecDepth 100000 in
set_option maxHeartbeats 4000000 in
theorem some_any (f n : Int) (hf : -9223372036854775808 ≤ f ∧ f ≤ 9223372036854775807) (w : World) :
    Calls Try.prog 31 #[.int .i64 f, .int .i64 n] w fun e w' => ∃ v, e = .returned v ∧ Sl 19 Mb.l 95 w' w.heap.size v (som f n) ∧ Below w.heap.size w w' := by
  obtain ⟨k, hk⟩ : ∃ k : Nat, n % 6 = k := ⟨(n % 6).toNat, by omega⟩
  have hk6 : k < 6 := by omega
  have HK := Lib.hid hk
  obtain ⟨q, hq⟩ : ∃ q, q = f.tdiv 3 := ⟨_, rfl⟩
  have hqb : -3074457345618258603 ≤ q ∧ q ≤ 3074457345618258603 := by
    rw [hq]
    rcases Int.le_total 0 f with h | h
    · rw [Int.tdiv_eq_ediv_of_nonneg h]; omega
    · have e : f.tdiv 3 = -((-f).tdiv 3) := by rw [Int.neg_tdiv, Int.neg_neg]
      rw [e, Int.tdiv_eq_ediv_of_nonneg (by omega)]; omega
  have HQ := Lib.hid hq
  go_enter Try.func31, Try.ntmps31
  go_wp2_with fail
  go_loopw [5, 6] (fun s5 s6 wx => ∃ j : Nat, s6 = .int .i64 (j : Nat) ∧ j ≤ k ∧ Sl 1 ei 3 wx w.heap.size s5 (somW f j) ∧ Below w.heap.size w wx) (fun _ s6 _ => k - (intOf s6).toNat)
  case atStart => exact ⟨0, rfl, Nat.zero_le _, by simp only [somW, List.range_zero, List.map_nil]; exact Sl.nil _ _ _ _ _, Below.refl _ _⟩
  case round =>
    obtain ⟨j, rfl, hj, hs, hb⟩ := hrel
    have HS := Lib.hid hs
    have HB := Lib.hid hb
    have HBS := Lib.hid hb.size
    clear hs hb
    go_wp2_with fail
    refine (round_big n 6 (by omega) (by omega) _).mono ?_
    rintro e w1 ⟨rfl, rfl⟩
    rw [HK.out]
    by_cases hlt : j < k
    · have hltz : (j : Int) < (k : Int) := by omega
      have hm1 : IntKind.i64.wrap (q + (j : Int)) = q + (j : Int) := by rw [IntKind.wrap_i64]; omega
      have hm2 : Int.tdiv f 3 = q := hq.symm
      have hol : (somW f j).length ≤ 6 := by simp [somW]; omega
      clear hq hk hf
      go_upto_region 4 with (at_builtin; refine wpList_sl_app1 (y := q + (j : Int)) rfl ei_len ei_one slI infoI rfl (by decide) HS.out rfl (by unfold maxLen; omega) (by omega) HBS.out rfl rfl rfl rfl ?_; intro v' W5 hs5 hm5 ho5; have HS5 := Lib.hid hs5; have HM5 := Lib.hid hm5; clear hs5 hm5 ho5)
      have HB5 := Lib.hid (HB.out.trans (mod_below HM5.out HB.out.size (fun g hg => (HS.out.ge hg).1)))
      clear hm1 hm2 hol
      go_wp2_with fail
      go_roundw
      case rel => exact ⟨j + 1, by simp, by omega, by rw [somW_snoc, ← HQ.out]; exact HS5.out, HB5.out⟩
      case measure => simp [intOf] <;> omega
    · have hltz : ¬ (j : Int) < (k : Int) := by omega
      have hjk : j = k := by omega
      subst hjk
      obtain ⟨r, hr⟩ : ∃ r : Nat, r = (f % 5).toNat := ⟨_, rfl⟩
      have hr5 : r < 5 := by rw [hr]; omega
      have HR := Lib.hid hr
      have HR2 := Lib.hid (show f % 5 = (r : Int) by rw [hr]; omega)
      obtain ⟨a5, c5, hv5⟩ := HS.out.form
      have hwl : (somW f j).length = j := by simp [somW]
      rw [hwl] at hv5
      subst hv5
      clear hq hk hf hr hwl
      go_wp2_with fail
      refine (servers_any a5 j c5 (somW f j) _ (HS.out.rd ei_len).1 (by omega)).mono ?_
      rintro e w2 ⟨v2, rfl, hs2, hb2⟩
      rw [smx_srv r, ← HQ.out] at hs2
      have HB2 := Lib.hid (step_below HB.out hb2)
      have HS2 := Lib.hid (hs2.base HBS.out)
      obtain ⟨a2, c2, hv2⟩ := hs2.form
      rw [smx_len] at hv2
      subst hv2
      clear hs2 hb2 hltz hlt
      go_wp2_with fail
      go_loopw [8] (fun s8 wx => ∃ i : Nat, s8 = .int .i64 (i : Nat) ∧ i ≤ j ∧ Sl 19 Mb.l 95 wx w.heap.size (.slice a2 j c2) (smx r q j i) ∧ Below w.heap.size w wx) (fun s8 _ => j - (intOf s8).toNat)
      case atStart => exact ⟨0, rfl, Nat.zero_le _, HS2.out, HB2.out⟩
      case round =>
        clear HS2 HB2 HS HB HBS
        obtain ⟨i, rfl, hi, hs, hb⟩ := hrel
        have HS := Lib.hid hs
        have HB := Lib.hid hb
        clear hs hb
        by_cases hlt : i < j
        · have hltz : (i : Int) < (j : Int) := by omega
          go_wp2_with fail
          refine (round_big f 5 (by omega) (by omega) _).mono ?_
          rintro e w3 ⟨rfl, rfl⟩
          rw [HR2.out]
          have hm1 : IntKind.i64.wrap ((r : Int) + (i : Int)) = ((r + i : Nat) : Int) := by rw [IntKind.wrap_i64]; omega
          go_wp2_with fail
          rw [show (r : Int) + (i : Int) = ((r + i : Nat) : Int) by omega]
          refine (adip_any (r + i) (by omega) _).mono ?_
          rintro e w4 ⟨rfl, hb4⟩
          replace HB := Lib.hid (step_below HB.out hb4)
          replace HS := Lib.hid (HS.out.below hb4)
          clear hb4 hm1
          rcases HS.out.cases with ⟨h1, h2⟩ | ⟨g, c', cur, h1, h2, h3, h4, h5, h6, _⟩
          · have := smx_len r q j i; rw [h2] at this; simp at this; omega
          · rw [smx_len] at h1 h4
            simp only [Value.slice.injEq] at h1
            obtain ⟨rfl, _, rfl⟩ := h1
            have hfit : i * 19 + 18 ≤ cur.size := by rw [h6]; omega
            have hst := store_at (P := Try.prog) w4 g (i * 19) 95 cur (dc (adp (r + i))) h3 (by rw [dc_size]; exact hfit) (dc_one _)
            have HS5 := Lib.hid (HS.out.setPart (part := (dc (adp (r + i))).toList) Mb.len (by simp [dc_size]) (smx_get r q j i i hlt) (mc_part _ (adp (r + i)) _))
            have HB5 := Lib.hid (HB.out.trans (mod_below (Mod.setCells (M := fun z => z = g) rfl (dc (adp (r + i))).toList (i * 19) w4) HB.out.size (fun z hz => by rw [hz]; exact h2)))
            have f0 := h3.frozen (i * 19)
            have l0 := h3.lt
            clear h3 h4 h5 h6 h2
            go_wp2_with fail
            go_roundw
            case rel => exact ⟨i + 1, by simp, by omega, by rw [smx_step]; exact HS5.out, HB5.out⟩
            case measure => simp [intOf] <;> omega
        · have hltz : ¬ (i : Int) < (j : Int) := by omega
          have HE := Lib.hid (show smx r q j i = som f n by rw [show i = j by omega, HR.out, HQ.out]; exact smx_som f n j HK.out)
          go_wp2_with fail
          go_ret
          rw [← HE.out]
          exact ⟨_, rfl, HS.out, HB.out⟩
end Go.Proofs.Ythfgccibiajneaa

/-
  Plain machinery over any program: a region that leaves its order open, walked in one order INSIDE THE WIDE FENCE (for bodies that call 'yield'). After Reg's 'region_sq' and the kit's fenced orders.
-/
namespace Go.Proofs.Ythfgccibiajneaa
open Go.RowKit
section
variable {n : Nat} {P : Program} {ops : Array Oper} {Q : Exit → Act → World → Prop} {md : Region.Mode} {S : World → Prop}
theorem yieldsIf_wpOpIn {i : Nat} {o : Oper} {v : Value} {a : Act} (hi : ops[i]? = some o) (hy : YieldsIf P ops S o v a)
    {K : Act → World → Prop} {w : World} (hS : S w) (h : K (a.put o.dst v) w) : wpOpIn Fence.wide n P ops Q i K a w := by
  unfold Go.wpOpIn
  simp only [hi]
  rcases hy with ⟨hw, hv⟩ | ⟨hw, rfl⟩
  · simp only [hw, if_true, Oper.wpIn, Fence.wide_round, Oper.semAt_none, hv w hS, Oper.uponIn]; exact ⟨fun _ _ => trivial, h⟩
  · simp only [hw, Bool.false_eq_true, if_false]; exact ⟨fun _ _ => trivial, h⟩
theorem wpOpIn_putIf {j : Nat} {oi oj : Oper} {v : Value} (hj : ops[j]? = some oj) (hap : oi.apart ops oj = true)
    (hsi : ∀ cs b, oi.op ≠ .select cs b) (hsj : ∀ cs b, oj.op ≠ .select cs b)
    (hQ : ∀ c a w, Q (.panic c) (a.put oi.dst v) w → Q (.panic c) a w) {K : Act → World → Prop} {a : Act} {w : World}
    (hy : YieldsIf P ops S oi v a) (h : wpOpIn Fence.wide n P ops Q j K (a.put oi.dst v) w) :
    wpOpIn Fence.wide n P ops Q j (fun a' w' => YieldsIf P ops S oi v a' ∧ K (a'.put oi.dst v) w') a w := by
  obtain ⟨h1, h2, h3⟩ := Oper.apart_spec hap
  have keep : ∀ (a : Act), YieldsIf P ops S oi v a → ∀ u, YieldsIf P ops S oi v (a.put oj.dst u) := fun a hy u =>
    hy.of_same (execOp_put oi hsi a oj.dst u h3) (wanted_put oi a oj.dst u h3)
  have keepD : ∀ d, YieldsIf P ops S oi v { a with defers := d :: a.defers } := fun d => hy.of_same rfl rfl
  unfold wpOpIn at *
  simp only [hj] at *
  rw [wanted_put oj a oi.dst v h1] at h
  split
  · rename_i hw
    simp only [hw, if_true] at h
    unfold Oper.wpIn at *
    refine ⟨fun _ _ => trivial, ?_⟩
    have h := h.2
    rw [Fence.wide_round, Oper.semAt_none, execOp_put oj hsj a oi.dst v h1] at h
    rw [Fence.wide_round, Oper.semAt_none]
    generalize (execOp a.eval oj).run P w = r at *
    cases r with
    | ok x w' =>
      cases x <;> simp only [Oper.uponIn] at h ⊢
      case value u => exact ⟨keep a hy u, by rw [← Act.put_comm a v u h2]; exact h⟩
      case skip => exact ⟨keep a hy _, by rw [← Act.put_comm a v undef h2]; exact h⟩
      case defer d =>
        refine ⟨keep _ (keepD d) _, ?_⟩
        rw [← Act.put_comm _ v undef h2, ← Act.put_defers]
        exact h
      case enter f args =>
        refine ⟨h.1, CallsIn.mono h.2 fun e w'' he => ?_⟩
        cases e with
        | returned u => exact ⟨keep a hy u, by rw [← Act.put_comm a v u h2]; exact he⟩
        | panicked c => exact hQ _ _ _ he
        | outgrown => exact he
      case row row args => exact ⟨h.1, RowsIn.mono h.2 fun u w'' he => ⟨keep a hy u, by rw [← Act.put_comm a v u h2]; exact he⟩⟩
      case round l f tmps assign body =>
        refine ⟨h.1, RoundIn.mono h.2 fun e w'' he => ?_⟩
        cases e with
        | returned u => exact ⟨keep a hy u, by rw [← Act.put_comm a v u h2]; exact he⟩
        | panicked c => exact hQ _ _ _ he
        | outgrown => exact he
    | halt x w' =>
      cases x <;> simp only [Oper.uponIn] at h ⊢
      case panic u => exact hQ _ _ _ h
  · rename_i hw
    simp only [hw] at h
    exact ⟨fun _ _ => trivial, keep a hy _, by rw [← Act.put_comm a v undef h2]; exact h.2⟩
/-- The row of orders, S held behind each operation. -/
def wpAnyHI (n : Nat) (P : Program) (md : Region.Mode) (ops : Array Oper) (Q : Exit → Act → World → Prop) (S : World → Prop) : Nat → Array Bool → Act → World → Prop
  | 0, listed, a, w => Region.ready md ops listed = [] ∧ Q .normal a w
  | fuel + 1, listed, a, w =>
    (Region.ready md ops listed = [] → Q .normal a w) ∧
    ∀ i ∈ Region.ready md ops listed, wpOpIn Fence.wide n P ops Q i (fun a' w' => S w' ∧ wpAnyHI n P md ops Q S fuel (listed.setIfInBounds i true) a' w') a w
theorem wpAnyIn_of_heldI : ∀ (fuel : Nat) (listed : Array Bool) (a : Act) (w : World), wpAnyHI n P md ops Q S fuel listed a w → wpAnyIn Fence.wide n P md ops Q fuel listed a w
  | 0, _, _, _, h => h
  | fuel + 1, _, _, _, h => ⟨h.1, fun i hi => wpOpIn_mono (fun a' w' h' => wpAnyIn_of_heldI fuel _ a' w' h'.2) (h.2 i hi)⟩
theorem wpAnyHI_mono {S S' : World → Prop} (h : ∀ w, S w → S' w) : ∀ (fuel : Nat) (listed : Array Bool) (a : Act) (w : World), wpAnyHI n P md ops Q S fuel listed a w → wpAnyHI n P md ops Q S' fuel listed a w
  | 0, _, _, _, hh => hh
  | fuel + 1, _, _, _, hh => ⟨hh.1, fun i hi => wpOpIn_mono (fun a' w' x => ⟨h _ x.1, wpAnyHI_mono h fuel _ a' w' x.2⟩) (hh.2 i hi)⟩
theorem wpAnyHI_first {i : Nat} {oi : Oper} {v : Value} (hi : ops[i]? = some oi) (hsel : ∀ (j : Nat) (o : Oper) cs b, ops[j]? = some o → o.op ≠ .select cs b)
    (hQ : ∀ c a w, Q (.panic c) (a.put oi.dst v) w → Q (.panic c) a w) :
    ∀ (fuel : Nat) (listed : Array Bool) (a : Act) (w : World),
      (∀ j oj, ops[j]? = some oj → j ≠ i → listed.getD j true = false → (∀ e ∈ oj.after, Region.binds md e = true → e.on ≠ i) → oi.apart ops oj = true) →
      i ∈ Region.ready md ops listed → YieldsIf P ops S oi v a → S w →
      wpAnyHI n P md ops Q S fuel (listed.setIfInBounds i true) (a.put oi.dst v) w → wpAnyHI n P md ops Q S (fuel + 1) listed a w := by
  intro fuel
  induction fuel with
  | zero =>
    intro listed a w _ hr hy hS H
    refine ⟨fun h => (by rw [h] at hr; cases hr), fun j hj => ?_⟩
    by_cases hji : j = i
    · subst hji; exact yieldsIf_wpOpIn hi hy hS ⟨hS, H⟩
    · have := ready_mono hj hji
      rw [H.1] at this
      cases this
  | succ fuel ih =>
    intro listed a w hfree hr hy hS H
    refine ⟨fun h => (by rw [h] at hr; cases hr), fun j hj => ?_⟩
    by_cases hji : j = i
    · subst hji; exact yieldsIf_wpOpIn hi hy hS ⟨hS, H⟩
    · have h1 := H.2 j (ready_mono hj hji)
      obtain ⟨hjun, oj, hoj, hall⟩ := mem_ready.1 hj
      have hnot : ∀ e ∈ oj.after, Region.binds md e = true → e.on ≠ i := fun e he hb heq => by
        have h1 := hall e he hb
        have h0 := (mem_ready.1 hr).1
        rw [heq] at h1
        rcases Nat.lt_or_ge i listed.size with h' | h'
        · simp [h'] at h0 h1; rw [h0] at h1; cases h1
        · simp [Array.getElem?_eq_none h'] at h1
      have h2 := wpOpIn_putIf hoj (hfree j oj hoj hji hjun hnot) (fun cs b => hsel i oi cs b hi) (fun cs b => hsel j oj cs b hoj) hQ hy h1
      have hfree' : ∀ k ok, ops[k]? = some ok → k ≠ i → (listed.setIfInBounds j true).getD k true = false →
          (∀ e ∈ ok.after, Region.binds md e = true → e.on ≠ i) → oi.apart ops ok = true := fun k ok hk hki hun hno => by
        refine hfree k ok hk hki ?_ hno
        by_cases hjk : j = k
        · subst hjk; exact hjun
        · rw [getD_set_ne true hjk] at hun; exact hun
      refine wpOpIn_mono (fun a' w' h3 => ⟨h3.2.1, ih (listed.setIfInBounds j true) a' w' hfree' (ready_mono hr (Ne.symm hji)) h3.1 h3.2.1 ?_⟩) h2
      rw [Array.setIfInBounds_comm _ _ hji]
      exact h3.2.2
/-- A region in one order, inside the wide fence (as 'wpSq'). -/
def wpSqI (n : Nat) (P : Program) (ops : Array Oper) (Q : Exit → Act → World → Prop) (M : Nat → Prop) (E : Act → World → Prop) : List (Nat × Bool) → Act → World → Prop
  | [], a, w => E a w
  | (i, true) :: r, a, w => ∃ o v, ops[i]? = some o ∧ (∀ w', Mod M w w' → if Region.wanted o (yielded ops a.tmps) = true then (execOp a.eval o).run P w' = .ok (.value v) w' else v = undef) ∧ wpSqI n P ops Q M E r (a.put o.dst v) w
  | (i, false) :: r, a, w => wpOpIn Fence.wide n P ops Q i (fun a' w' => Mod M w w' ∧ wpSqI n P ops Q M E r a' w') a w
theorem wpAnyHI_of_sq {M : Nat → Prop} (hs : Region.noSelect ops = true) (hQ : ∀ c a d v w, Q (.panic c) (Act.put a d v) w → Q (.panic c) a w) (m : Nat) :
    ∀ (plan : List (Nat × Bool)) (listed : Array Bool) (a : Act) (w : World), sqOk md ops plan listed = true →
      wpSqI n P ops Q M (fun a w => wpAnyHI n P md ops Q (Mod M w) m (sqSet plan listed) a w) plan a w → wpAnyHI n P md ops Q (Mod M w) (m + plan.length) listed a w
  | [], _, _, _, _, h => h
  | (i, true) :: r, listed, a, w, ho, h => by
    simp only [sqOk, Bool.and_eq_true] at ho
    obtain ⟨o, v, hi, hy, hr⟩ := h
    have ih := wpAnyHI_of_sq hs hQ m r _ _ w ho.2 hr
    refine wpAnyHI_first hi (Region.noSelect_spec hs) (fun c a w => hQ c a _ _ w) _ listed a w (Region.free_spec hi ho.1.1) (by simpa using ho.1.2) ?_ (Mod.refl M w) ih
    by_cases hw : Region.wanted o (yielded ops a.tmps) = true
    · exact .inl ⟨hw, fun w' hM => by have := hy w' hM; rwa [if_pos hw] at this⟩
    · exact .inr ⟨by simpa using hw, by have := hy w (Mod.refl M w); rwa [if_neg hw] at this⟩
  | (i, false) :: r, listed, a, w, ho, h => by
    simp only [sqOk, Bool.and_eq_true, beq_iff_eq] at ho
    refine ⟨fun h0 => absurd (ho.1 ▸ h0) (by simp), fun j hj => ?_⟩
    rw [ho.1, List.mem_singleton] at hj
    subst hj
    exact wpOpIn_mono (fun a' w' x => ⟨x.1, wpAnyHI_mono (fun _ y => x.1.trans y) _ _ _ _ (wpAnyHI_of_sq hs hQ m r _ a' w' ho.2 x.2)⟩) h
theorem wpSqI_mono {M : Nat → Prop} {E E' : Act → World → Prop} (hE : ∀ a w, E a w → E' a w) : ∀ (plan : List (Nat × Bool)) (a : Act) (w : World), wpSqI n P ops Q M E plan a w → wpSqI n P ops Q M E' plan a w
  | [], a, w, h => hE a w h
  | (_, true) :: r, _, w, ⟨o, v, h1, h2, h3⟩ => ⟨o, v, h1, h2, wpSqI_mono hE r _ w h3⟩
  | (_, false) :: r, _, _, h => wpOpIn_mono (fun a' w' x => ⟨x.1, wpSqI_mono hE r a' w' x.2⟩) h
/-- THE BEGINNING. -/
theorem region_sqI {id : Nat} {a : Act} {w : World} (M : Nat → Prop) (plan : List (Nat × Bool)) (hm : P.follows .mixedOrders = true)
    (ho : (Region.noSelect ops && (plan.length == ops.size) && sqOk .any ops plan (Array.replicate ops.size false) && (Region.ready .any ops (sqSet plan (Array.replicate ops.size false))).isEmpty) = true)
    (hQ : ∀ c a d v w, Q (.panic c) (Act.put a d v) w → Q (.panic c) a w)
    (h : wpSqI n P ops Q M (Q .normal) plan a w.drew) : (Code.region id ops true).wpIn Fence.wide n P Q a w := by
  simp only [Bool.and_eq_true, beq_iff_eq, List.isEmpty_iff] at ho
  have := wpAnyHI_of_sq (md := .any) ho.1.1.1 hQ 0 plan _ a w.drew ho.1.2 (wpSqI_mono (fun a w hq => (⟨ho.2, hq⟩ : wpAnyHI n P .any ops Q _ 0 _ a w)) plan _ _ h)
  rw [Nat.zero_add, ho.1.1.2] at this
  exact wpIn_region_any hm (wpAnyIn_of_heldI _ _ _ _ this)
theorem sqI_yes {M : Nat → Prop} {E : Act → World → Prop} {i : Nat} {r : List (Nat × Bool)} {a : Act} {w : World} {o : Oper} {v : Value} (hi : ops.toList[i]? = some o)
    (hw : Region.wanted o (yielded ops a.tmps) = true) (hy : ∀ w', Mod M w w' → (execOp a.eval o).run P w' = .ok (.value v) w')
    (h : wpSqI n P ops Q M E r (a.put o.dst v) w) : wpSqI n P ops Q M E ((i, true) :: r) a w := ⟨o, v, of_toList hi, fun w' hM => by rw [if_pos hw]; exact hy w' hM, h⟩
theorem sqI_no {M : Nat → Prop} {E : Act → World → Prop} {i : Nat} {r : List (Nat × Bool)} {a : Act} {w : World} {o : Oper} (hi : ops.toList[i]? = some o)
    (hw : Region.wanted o (yielded ops a.tmps) = false) (h : wpSqI n P ops Q M E r (a.put o.dst undef) w) : wpSqI n P ops Q M E ((i, true) :: r) a w := ⟨o, undef, of_toList hi, fun w' hM => by rw [hw]; rfl, h⟩
theorem sqI_do_yes {M : Nat → Prop} {E : Act → World → Prop} {i : Nat} {r : List (Nat × Bool)} {a : Act} {w : World} {o : Oper} (hi : ops.toList[i]? = some o)
    (hw : Region.wanted o (yielded ops a.tmps) = true)
    (h : ∀ K : Act → World → Prop, (∀ a' w', (Mod M w w' ∧ wpSqI n P ops Q M E r a' w') → K a' w') → o.wpIn Fence.wide n P a w K Q) : wpSqI n P ops Q M E ((i, false) :: r) a w := by
  have := h _ (fun _ _ h => h)
  show wpOpIn Fence.wide n P ops Q i _ a w
  unfold wpOpIn
  simp only [of_toList hi, hw, if_true]
  exact this
theorem sqI_do_no {M : Nat → Prop} {E : Act → World → Prop} {i : Nat} {r : List (Nat × Bool)} {a : Act} {w : World} {o : Oper} (hi : ops.toList[i]? = some o)
    (hw : Region.wanted o (yielded ops a.tmps) = false) (h : wpSqI n P ops Q M E r (a.put o.dst undef) w) : wpSqI n P ops Q M E ((i, false) :: r) a w := by
  show wpOpIn Fence.wide n P ops Q i _ a w
  unfold wpOpIn
  simp only [of_toList hi, hw, Bool.false_eq_true, if_false]
  exact ⟨fun _ _ => trivial, Mod.refl M w, h⟩
theorem sqI_end {M : Nat → Prop} {E : Act → World → Prop} {a : Act} {w : World} (h : E a w) : wpSqI n P ops Q M E [] a w := h
end
end Go.Proofs.Ythfgccibiajneaa

/-
  Plain machinery over any program: a region inside the wide fence whose head only computes and reads, and whose last operations (a call of 'yield', say) wait for all of the head: behind them nothing that was read need be kept.
-/
namespace Go.Proofs.Ythfgccibiajneaa
open Go.RowKit
section
variable {n : Nat} {P : Program} {ops : Array Oper} {Q : Exit → Act → World → Prop} {md : Region.Mode} {S : World → Prop}
/-- The head's orders, S held behind each; behind the head: whatever order. -/
def wpHeadI (n : Nat) (P : Program) (md : Region.Mode) (ops : Array Oper) (Q : Exit → Act → World → Prop) (S : World → Prop) (m g : Nat) : Nat → Array Bool → Act → World → Prop
  | 0, listed, a, w => (∀ j ∈ Region.ready md ops listed, m ≤ j) ∧ wpAnyIn Fence.wide n P md ops Q g listed a w
  | f + 1, listed, a, w => Region.ready md ops listed ≠ [] ∧ ∀ i ∈ Region.ready md ops listed, i < m ∧ wpOpIn Fence.wide n P ops Q i (fun a' w' => S w' ∧ wpHeadI n P md ops Q S m g f (listed.setIfInBounds i true) a' w') a w
theorem wpAnyIn_of_head {m g : Nat} : ∀ (f : Nat) (listed : Array Bool) (a : Act) (w : World), wpHeadI n P md ops Q S m g f listed a w → wpAnyIn Fence.wide n P md ops Q (f + g) listed a w
  | 0, listed, a, w, h => by rw [Nat.zero_add]; exact h.2
  | f + 1, listed, a, w, h => by
    rw [show f + 1 + g = (f + g) + 1 by omega]
    exact ⟨fun h0 => absurd h0 h.1, fun i hi => wpOpIn_mono (fun a' w' x => wpAnyIn_of_head f _ a' w' x.2) (h.2 i hi).2⟩
theorem wpHeadI_first {m g i : Nat} {oi : Oper} {v : Value} (hi : ops[i]? = some oi) (hsel : ∀ (j : Nat) (o : Oper) cs b, ops[j]? = some o → o.op ≠ .select cs b)
    (hs : Region.sinkB md ops m = true) (hc : Region.chainB md ops m = true) (hn : m < ops.size) (him : i < m)
    (hQ : ∀ c a w, Q (.panic c) (a.put oi.dst v) w → Q (.panic c) a w) :
    ∀ (f : Nat) (listed : Array Bool) (a : Act) (w : World), HeadInv md ops m listed →
      (∀ j oj, ops[j]? = some oj → j ≠ i → listed.getD j true = false → (∀ e ∈ oj.after, Region.binds md e = true → e.on ≠ i) → oi.apart ops oj = true) →
      i ∈ Region.ready md ops listed → YieldsIf P ops S oi v a → S w →
      wpHeadI n P md ops Q S m g f (listed.setIfInBounds i true) (a.put oi.dst v) w → wpHeadI n P md ops Q S m g (f + 1) listed a w := by
  intro f
  induction f with
  | zero =>
    intro listed a w inv _ hr hy hS H
    have hun := (mem_ready.1 hr).1
    refine ⟨fun h => (by rw [h] at hr; cases hr), fun j hj => ?_⟩
    have hjm : j < m := by
      rcases Nat.lt_or_ge j m with h | h
      · exact h
      · exact absurd hj (tail_waits hs hc hn inv _ i rfl him hun j h)
    refine ⟨hjm, ?_⟩
    by_cases hji : j = i
    · subst hji; exact yieldsIf_wpOpIn hi hy hS ⟨hS, H⟩
    · have := H.1 j (ready_mono hj hji)
      omega
  | succ f ih =>
    intro listed a w inv hfree hr hy hS H
    have hun := (mem_ready.1 hr).1
    refine ⟨fun h => (by rw [h] at hr; cases hr), fun j hj => ?_⟩
    have hjm : j < m := by
      rcases Nat.lt_or_ge j m with h | h
      · exact h
      · exact absurd hj (tail_waits hs hc hn inv _ i rfl him hun j h)
    refine ⟨hjm, ?_⟩
    by_cases hji : j = i
    · subst hji; exact yieldsIf_wpOpIn hi hy hS ⟨hS, H⟩
    · have h1 := (H.2 j (ready_mono hj hji)).2
      obtain ⟨hjun, oj, hoj, hall⟩ := mem_ready.1 hj
      have hnot : ∀ e ∈ oj.after, Region.binds md e = true → e.on ≠ i := fun e he hb heq => by
        have h1 := hall e he hb
        rw [heq, getD_both hun] at h1
        cases h1
      have h2 := wpOpIn_putIf hoj (hfree j oj hoj hji hjun hnot) (fun cs b => hsel i oi cs b hi) (fun cs b => hsel j oj cs b hoj) hQ hy h1
      have hfree' : ∀ k ok, ops[k]? = some ok → k ≠ i → (listed.setIfInBounds j true).getD k true = false →
          (∀ e ∈ ok.after, Region.binds md e = true → e.on ≠ i) → oi.apart ops ok = true := fun k ok hk hki hun hno => by
        refine hfree k ok hk hki ?_ hno
        by_cases hjk : j = k
        · subst hjk; exact hjun
        · rw [getD_set_ne true hjk] at hun; exact hun
      refine wpOpIn_mono (fun a' w' h3 => ⟨h3.2.1, ih (listed.setIfInBounds j true) a' w' (inv.set hj hjm) hfree' (ready_mono hr (Ne.symm hji)) h3.1 h3.2.1 ?_⟩) h2
      rw [Array.setIfInBounds_comm _ _ hji]
      exact h3.2.2
/-- The head's plan: each is taken first. -/
def headOk (md : Region.Mode) (ops : Array Oper) (m : Nat) : List Nat → Array Bool → Bool
  | [], listed => (Region.ready md ops listed).all fun j => decide (m ≤ j)
  | i :: r, listed => decide (i < m) && Region.free md ops listed i && (Region.ready md ops listed).contains i && headOk md ops m r (listed.setIfInBounds i true)
def headSet (plan : List Nat) (listed : Array Bool) : Array Bool := plan.foldl (fun l i => l.setIfInBounds i true) listed
/-- The head, one after the other, in world w; then E. -/
def wpHd (P : Program) (ops : Array Oper) (w : World) (E : Act → Prop) : List Nat → Act → Prop
  | [], a => E a
  | i :: r, a => ∃ o v, ops[i]? = some o ∧ (if Region.wanted o (yielded ops a.tmps) = true then (execOp a.eval o).run P w = .ok (.value v) w else v = undef) ∧ wpHd P ops w E r (a.put o.dst v)
theorem wpHeadI_of_hd {m g : Nat} {w : World} (hsel : Region.noSelect ops = true) (hs : Region.sinkB md ops m = true) (hc : Region.chainB md ops m = true) (hn : m < ops.size)
    (hQ : ∀ c a d v w, Q (.panic c) (Act.put a d v) w → Q (.panic c) a w) :
    ∀ (plan : List Nat) (listed : Array Bool) (a : Act), HeadInv md ops m listed → headOk md ops m plan listed = true →
      wpHd P ops w (fun a => wpAnyIn Fence.wide n P md ops Q g (headSet plan listed) a w) plan a → wpHeadI n P md ops Q (fun w' => w' = w) m g plan.length listed a w
  | [], listed, a, _, ho, h => ⟨fun j hj => by simp only [headOk, List.all_eq_true, decide_eq_true_eq] at ho; exact ho j hj, h⟩
  | i :: r, listed, a, inv, ho, h => by
    simp only [headOk, Bool.and_eq_true, decide_eq_true_eq] at ho
    obtain ⟨o, v, hi, hy, hr⟩ := h
    have hrd : i ∈ Region.ready md ops listed := by simpa using ho.1.2
    refine wpHeadI_first hi (Region.noSelect_spec hsel) hs hc hn ho.1.1.1 (fun c a w => hQ c a _ _ w) _ listed a w inv (Region.free_spec hi ho.1.1.2) hrd ?_ rfl
      (wpHeadI_of_hd hsel hs hc hn hQ r _ _ (inv.set hrd ho.1.1.1) ho.2 hr)
    by_cases hw : Region.wanted o (yielded ops a.tmps) = true
    · exact .inl ⟨hw, fun w' hM => by subst hM; rwa [if_pos hw] at hy⟩
    · exact .inr ⟨by simpa using hw, by rwa [if_neg hw] at hy⟩
/-- The tail: each alone is left to come. -/
def tailOk (md : Region.Mode) (ops : Array Oper) : List Nat → Array Bool → Bool
  | [], listed => (Region.ready md ops listed).isEmpty
  | i :: r, listed => (Region.ready md ops listed == [i]) && tailOk md ops r (listed.setIfInBounds i true)
def wpTl (n : Nat) (P : Program) (ops : Array Oper) (Q : Exit → Act → World → Prop) : List Nat → Act → World → Prop
  | [], a, w => Q .normal a w
  | i :: r, a, w => wpOpIn Fence.wide n P ops Q i (wpTl n P ops Q r) a w
theorem wpAnyIn_of_tl : ∀ (plan : List Nat) (listed : Array Bool) (a : Act) (w : World), tailOk md ops plan listed = true → wpTl n P ops Q plan a w → wpAnyIn Fence.wide n P md ops Q plan.length listed a w
  | [], listed, a, w, ho, h => ⟨by simpa [tailOk] using ho, h⟩
  | i :: r, listed, a, w, ho, h => by
    simp only [tailOk, Bool.and_eq_true, beq_iff_eq] at ho
    refine ⟨fun h0 => absurd (ho.1.symm.trans h0) (by simp), fun j hj => ?_⟩
    rw [ho.1, List.mem_singleton] at hj
    subst hj
    exact wpOpIn_mono (fun a' w' x => wpAnyIn_of_tl r _ a' w' ho.2 x) h
/-- THE BEGINNING. -/
theorem region_tailI {id : Nat} {a : Act} {w : World} (m : Nat) (plan plan2 : List Nat) (hm : P.follows .mixedOrders = true)
    (ho : (Region.noSelect ops && decide (m < ops.size) && Region.sinkB .any ops m && Region.chainB .any ops m && (plan.length + plan2.length == ops.size)
      && headOk .any ops m plan (Array.replicate ops.size false) && tailOk .any ops plan2 (headSet plan (Array.replicate ops.size false))) = true)
    (hQ : ∀ c a d v w, Q (.panic c) (Act.put a d v) w → Q (.panic c) a w)
    (h : wpHd P ops w.drew (fun a => wpTl n P ops Q plan2 a w.drew) plan a) : (Code.region id ops true).wpIn Fence.wide n P Q a w := by
  simp only [Bool.and_eq_true, beq_iff_eq, decide_eq_true_eq] at ho
  obtain ⟨⟨⟨⟨⟨⟨hsel, hn⟩, hs⟩, hc⟩, hl⟩, h1⟩, h2⟩ := ho
  have inv0 : HeadInv .any ops m (Array.replicate ops.size false) :=
    ⟨by simp, fun j oj _ hl => (by rw [getD_replicate_false] at hl; cases hl), fun t _ ht => getD_in (by simpa using ht) (getD_replicate_false _ _)⟩
  have key : ∀ (pl : List Nat) (a : Act), wpHd P ops w.drew (fun a => wpTl n P ops Q plan2 a w.drew) pl a → wpHd P ops w.drew (fun a => wpAnyIn Fence.wide n P .any ops Q plan2.length (headSet plan (Array.replicate ops.size false)) a w.drew) pl a := by
    intro pl
    induction pl with
    | nil => intro a x; exact wpAnyIn_of_tl _ _ _ _ h2 x
    | cons i r ih => intro a ⟨o, v, x1, x2, x3⟩; exact ⟨o, v, x1, x2, ih _ x3⟩
  have := wpAnyIn_of_head _ _ _ _ (wpHeadI_of_hd (md := .any) (n := n) (Q := Q) (g := plan2.length) hsel hs hc hn hQ plan _ a inv0 h1 (key plan a h))
  rw [hl] at this
  exact wpIn_region_any hm this
theorem hd_yes {w : World} {E : Act → Prop} {i : Nat} {r : List Nat} {a : Act} {o : Oper} {v : Value} (hi : ops.toList[i]? = some o)
    (hw : Region.wanted o (yielded ops a.tmps) = true) (hy : (execOp a.eval o).run P w = .ok (.value v) w) (h : wpHd P ops w E r (a.put o.dst v)) : wpHd P ops w E (i :: r) a := ⟨o, v, of_toList hi, by rw [if_pos hw]; exact hy, h⟩
theorem hd_no {w : World} {E : Act → Prop} {i : Nat} {r : List Nat} {a : Act} {o : Oper} (hi : ops.toList[i]? = some o)
    (hw : Region.wanted o (yielded ops a.tmps) = false) (h : wpHd P ops w E r (a.put o.dst undef)) : wpHd P ops w E (i :: r) a := ⟨o, undef, of_toList hi, by rw [hw]; rfl, h⟩
theorem hd_end {w : World} {E : Act → Prop} {a : Act} (h : E a) : wpHd P ops w E [] a := h
theorem tl_yes {i : Nat} {r : List Nat} {a : Act} {w : World} {o : Oper} (hi : ops.toList[i]? = some o) (hw : Region.wanted o (yielded ops a.tmps) = true)
    (h : ∀ K : Act → World → Prop, (∀ a' w', wpTl n P ops Q r a' w' → K a' w') → o.wpIn Fence.wide n P a w K Q) : wpTl n P ops Q (i :: r) a w := by
  have := h _ (fun _ _ h => h)
  show wpOpIn Fence.wide n P ops Q i _ a w
  unfold wpOpIn
  simp only [of_toList hi, hw, if_true]
  exact this
theorem tl_no {i : Nat} {r : List Nat} {a : Act} {w : World} {o : Oper} (hi : ops.toList[i]? = some o) (hw : Region.wanted o (yielded ops a.tmps) = false)
    (h : wpTl n P ops Q r (a.put o.dst undef) w) : wpTl n P ops Q (i :: r) a w := by
  show wpOpIn Fence.wide n P ops Q i _ a w
  unfold wpOpIn
  simp only [of_toList hi, hw, Bool.false_eq_true, if_false]
  exact ⟨fun _ _ => trivial, h⟩
theorem tl_end {a : Act} {w : World} (h : Q .normal a w) : wpTl n P ops Q [] a w := h
end
end Go.Proofs.Ythfgccibiajneaa
