/-
  The wheel's methods, one contract each, for keys that are ints and keys that are strings.
-/
import Derived.Test.YtaadkehopfjclaaWhNew
import Derived.WalkSpells
import Derived.WalkLawsBesides
import Derived.Lib.Hide
import Derived.Laws.MakeOwn
import Derived.OwnWalk
import Derived.Shelf.Abstract
namespace Go.Proofs.Ytaadkehopfjclaa
open Go.RowKit Go.MapKept Go.Shelf

namespace Wi
variable {w w' : World} {B : Nat} {F : Nat → Prop} {p t m n : Nat} {vs : List Value} {P : List D} {now seq : Nat}
/-- One that is there is dropped. -/
theorem Wh.dropped {i : Nat} {x : D} {v' : Value} (h : Wh w B F p t m n vs P now seq) (hx : x ∈ P) (hi : i = x.t % n) (hp : At w' p 49 (hd n t m now seq)) (ht : At w' t 52 (vs.set i v').toArray)
    (hm : Mp (.int .i64) w' m ((P.filter fun y => decide (y.k ≠ x.k)).map ent)) {v : Value} (hv : vs[i]? = some v) (hs : Sl 3 due 51 w' B v' ((P.filter fun y => y.t % n == i).filter fun y => y.s != x.s))
    (hvv : v'.ownBlock = v.ownBlock) (hM : Mod F w w') (ho : ∀ j u, j ≠ i → vs[j]? = some u → Sl 3 due 51 w' B u (P.filter fun y => y.t % n == j)) :
    Wh w' B F p t m n (vs.set i v') (P.filter fun y => decide (y.k ≠ x.k)) now seq := by
  have hil : i < vs.length := (List.getElem?_eq_some_iff.1 hv).1
  refine ⟨hp, ht, hm, by rw [List.length_set]; exact h.hn, h.n0, h.n1, ?_, ?_, h.fp, h.ft, h.fm, ?_, fun g hg => ⟨(h.fb g hg).1, Nat.lt_of_lt_of_le (h.fb g hg).2 hM.size⟩, h.sq.filter _, fun y hy => h.sb y (List.mem_filter.1 hy).1⟩
  · intro j u hu
    rw [List.getElem?_set] at hu
    rw [List.filter_filter]
    by_cases hij : i = j
    · subst hij
      rw [if_pos rfl, if_pos hil] at hu
      simp only [Option.some.injEq] at hu
      subst hu
      rw [List.filter_filter] at hs
      have e : P.filter (fun a => a.t % n == i && decide (a.k ≠ x.k)) = P.filter (fun a => a.s != x.s && a.t % n == i) :=
        List.filter_congr fun y hy => by rw [h.seq_key hx hy, Bool.and_comm]
      rw [e]
      exact hs
    · rw [if_neg hij] at hu
      have e : P.filter (fun a => a.t % n == j && decide (a.k ≠ x.k)) = P.filter (fun a => a.t % n == j) :=
        List.filter_congr fun y hy => by
          by_cases hk : y.k = x.k
          · have := h.key_inj hy hx hk
            subst this
            have : (y.t % n == j) = false := by rw [beq_eq_false_iff_ne]; omega
            rw [this]; rfl
          · simp [hk]
      rw [e]
      exact ho j u (Ne.symm hij) hu
  · intro a b u u' g hu hu' hg hg'
    have key : ∀ (a : Nat) (u : Value), (vs.set i v')[a]? = some u → ∃ u0, vs[a]? = some u0 ∧ u.ownBlock = u0.ownBlock := by
      intro a u hu
      rw [List.getElem?_set] at hu
      split at hu
      · rename_i hia
        subst hia
        simp only [Option.some.injEq] at hu
        subst hu
        exact ⟨v, hv, hvv⟩
      · exact ⟨u, hu, rfl⟩
    obtain ⟨u0, h0, e0⟩ := key a u hu
    obtain ⟨u1, h1, e1⟩ := key b u' hu'
    exact h.own a b u0 u1 g h0 h1 (e0 ▸ hg) (e1 ▸ hg')
  · intro a u g hu hg
    rw [List.getElem?_set] at hu
    split at hu
    · rename_i hia
      subst hia
      simp only [Option.some.injEq] at hu
      subst hu
      exact h.fo i v g hv (hvv ▸ hg)
    · exact h.fo a u g hu hg
set_option maxHeartbeats 2000000 in
theorem drop_any (k : K) (h : Wh w B F p t m n vs P now seq) (hbig : P.length ≤ 1073741824) :
    Calls Try.prog 13 #[.pointer (some ⟨p, 0, none⟩), .int .i64 (k)] w fun e w' =>
      e = .returned (.bool (P.any fun y => decide (y.k = k))) ∧ (∃ vs', Wh w' B F p t m n vs' (P.filter fun y => decide (y.k ≠ k)) now seq) ∧ Mod F w w' := by
  have H := Lib.hid h
  have H0 := H
  have c0 := h.hp.cell 0
  have c1 := h.hp.cell 1
  have hpl := h.hp.lt
  simp only [List.getElem?_toArray, List.getElem?_cons_zero, List.getElem?_cons_succ] at c0 c1
  by_cases hin : ∃ x ∈ P, x.k = k
  · obtain ⟨x, hx, rfl⟩ := hin
    have hlk := h.hm.lookup_yes (P := Try.prog) mapT keyT (isK x.k) (List.mem_map_of_mem (f := ent) hx) true
    simp only [if_true] at hlk
    have hany : (P.any fun y => decide (y.k = x.k)) = true := by simp only [List.any_eq_true, decide_eq_true_eq]; exact ⟨x, hx, rfl⟩
    rw [hany]
    have HX := Lib.hid hx
    clear h hany hx
    go_enter Try.func13, Try.ntmps13
    go_wp2_with fail
    obtain ⟨bx, hbx⟩ : ∃ bx, bx = w.heap.size := ⟨_, rfl⟩
    have HX0 := Lib.hid (at_new w 51 #[.int .i64 (x.k), .int .i64 (x.t : Nat), .int .i64 (x.s : Nat)] bx hbx)
    have HF := Lib.hid (show ¬ F bx by rw [hbx]; intro hf; have := (H.out.fb _ hf).2; omega)
    have hb : Below w.heap.size w (w.alloc (.cells #[.int .i64 (x.k), .int .i64 (x.t : Nat), .int .i64 (x.s : Nat)] 51)) := (Below.refl _ _).alloc (Nat.le_refl _) _
    have HM := Lib.hid (show Mod F w _ from Mod.of_below hb)
    replace H := Lib.hid (H.out.below hb)
    rw [← hbx]
    clear hbx hb c0 c1 hlk hpl
    generalize w.alloc (.cells #[.int .i64 (x.k), .int .i64 (x.t : Nat), .int .i64 (x.s : Nat)] 51) = W at *
    have c0 := H.out.hp.cell 0
    have cx := HX0.out.cell 1
    have hpl := H.out.hp.lt
    have hxl := HX0.out.lt
    simp only [List.getElem?_toArray, List.getElem?_cons_zero, List.getElem?_cons_succ] at c0 cx
    obtain ⟨i, hi⟩ : ∃ i, i = x.t % n := ⟨_, rfl⟩
    have HI := Lib.hid hi
    have hin : i < n := by rw [hi]; exact Nat.mod_lt _ H.out.n0
    have hn0 : ¬ n = 0 := by have := H.out.n0; omega
    have hmod : Int.tmod (x.t : Int) (n : Int) = (i : Int) := by rw [hi]; rfl
    clear hi
    refine region_sq (fun _ => False) [(0, true), (1, true), (2, true), (3, true), (4, true), (5, true), (6, true), (7, true), (8, true)] (by kernel_rfl) (by kernel_rfl) (fun _ _ d _ _ h => by cases d <;> exact h) ?_
    repeat (first
        | (refine sq_yes rfl (by rfl) (fun w' hM => by ((try replace hM := hM.of_drew); obtain ⟨hR1, hR2, hR3⟩ := hM.rules; clear hM; go_simp; with_reducible rfl)) ?_; simp only [Act.put, List.setIfInBounds_toArray, List.set_cons_zero, List.set_cons_succ])
        | (refine sq_no rfl (by rfl) ?_; simp only [Act.put, List.setIfInBounds_toArray, List.set_cons_zero, List.set_cons_succ]))
    refine sq_end ?_
    clear hmod hn0 cx
    replace HM := Lib.hid HM.out.drew
    replace H := Lib.hid H.out.drew
    replace HX0 := Lib.hid HX0.out.drew
    generalize W.drew = W2 at *
    obtain ⟨v, hv⟩ : ∃ v, vs[i]? = some v := ⟨_, List.getElem?_eq_getElem (by have := H.out.hn; omega)⟩
    have hxL : x ∈ P.filter (fun y => y.t % n == i) := List.mem_filter.2 ⟨HX.out, by rw [HI.out]; simp⟩
    have hsl := H.out.sl i v hv
    have HLE := Lib.hid (show (P.filter (fun y => y.t % n == i)).length ≤ P.length from List.length_filter_le _ _)
    generalize hL : P.filter (fun y => y.t % n == i) = L at *
    obtain ⟨jj, hjj⟩ := List.mem_iff_getElem?.1 hxL
    obtain ⟨aa, cc, rfl⟩ := hsl.form
    obtain ⟨g, rfl, -, -, -, -, -⟩ := hsl.cells due_len hjj
    have hno := H.out.ne_own hv (g := g) rfl
    have HV := Lib.hid hv
    have HL := Lib.hid hL
    have HS := Lib.hid hsl
    have c0 := H.out.hp.cell 0
    have ct := H.out.ht.cell i
    rw [List.getElem?_toArray, hv] at ct
    have hpl := H.out.hp.lt
    have htl := H.out.ht.lt
    have ft := H.out.ht.frozen i
    simp only [List.getElem?_toArray, List.getElem?_cons_zero] at c0
    have np : ¬ p = g := fun h => hno.1 h.symm
    have nt : ¬ t = g := fun h => hno.2.1 h.symm
    have hinz : (i : Int) < (n : Int) := by omega
    clear hno hv hsl hL hjj hxL
    go_wp2_with fail
    refine region_sq2 (fun b => b = g) (fun b => b = t) [(0, true), (1, true), (2, true), (3, true), (4, true), (5, true), (6, true), (7, true), (8, true), (9, true), (10, true), (11, true), (12, false), (13, false), (14, true)] [(15, false)] (by kernel_rfl) (by kernel_rfl) (fun _ _ d _ _ h => by cases d <;> exact h) ?_
    repeat (first
        | (refine sq_yes rfl (by rfl) (fun w' hM => by ((try replace hM := hM.of_drew); obtain ⟨hR1, hR2, hR3⟩ := hM.rules; clear hM; go_simp; with_reducible rfl)) ?_; simp only [Act.put, List.setIfInBounds_toArray, List.set_cons_zero, List.set_cons_succ])
        | (refine sq_no rfl (by rfl) ?_; simp only [Act.put, List.setIfInBounds_toArray, List.set_cons_zero, List.set_cons_succ]))
    replace H := Lib.hid H.out.drew
    replace HM := Lib.hid HM.out.drew
    replace HX0 := Lib.hid HX0.out.drew
    replace HS := Lib.hid HS.out.drew
    generalize W2.drew = W3 at *
    refine sq_do_yes rfl (by rfl) (fun K_ hK_ => ?_)
    go_wp2_with fail
    refine ⟨Mod.refl _ _, ?_⟩
    refine sq_do_yes rfl (by rfl) (fun K_ hK_ => ?_)
    go_wp2_with fail
    have hFg : F g := H.out.fo i _ g HV.out rfl
    refine (del_any bx x _ B L W3 HX0.out HS.out (by have := HLE.out; omega) (fun hh => HF.out (by simp only [Value.ownBlock, Option.some.injEq] at hh; exact hh ▸ hFg))).mono ?_
    rintro e w4 ⟨v', rfl, hs', hvv, hm'⟩
    have hm : Mod (fun b => b = g) W3 w4 := hm'.mono (fun b _ hb => (Option.some.inj hb).symm)
    have mg : ¬ m = g := fun h => (H.out.ne_own HV.out (g := g) rfl).2.2 h.symm
    have HP4 := Lib.hid (H.out.hp.mod hm np)
    have HT4 := Lib.hid (H.out.ht.mod hm nt)
    have HMP4 := Lib.hid (H.out.hm.mod hm mg)
    have HO4 := Lib.hid (show ∀ (j : Nat) (u : Value), j ≠ i → vs[j]? = some u → Sl 3 due 51 w4 B u (P.filter fun y => y.t % n == j) from fun j u hj hu =>
      (H.out.sl j u hu).mod hm (fun g' hg' e => hj (H.out.own j i u _ g hu HV.out (e ▸ hg') rfl)))
    have HS4 := Lib.hid hs'
    have HVV := Lib.hid hvv
    have HM4 := Lib.hid (HM.out.trans (hm.mono (fun b _ hb => by rw [hb]; exact hFg)))
    obtain ⟨av, cv, rfl⟩ := hs'.form
    have HMG := Lib.hid hm
    clear hm hm' hs' hvv ct hpl htl ft c0 HS HX0
    have ct := HT4.out.cell i
    have ft := HT4.out.frozen i
    rw [List.getElem?_toArray, HV.out] at ct
    have htl := HT4.out.lt
    go_wp2_with fail
    refine ⟨HMG.out, ?_⟩
    repeat (first
        | (refine sq_yes rfl (by rfl) (fun w' hM => by ((try replace hM := hM.of_drew); obtain ⟨hR1, hR2, hR3⟩ := hM.rules; clear hM; go_simp; with_reducible rfl)) ?_; simp only [Act.put, List.setIfInBounds_toArray, List.set_cons_zero, List.set_cons_succ])
        | (refine sq_no rfl (by rfl) ?_; simp only [Act.put, List.setIfInBounds_toArray, List.set_cons_zero, List.set_cons_succ]))
    refine sq_end ?_
    refine sq_do_yes rfl (by rfl) (fun K_ hK_ => ?_)
    go_wp2_with fail
    refine ⟨(Mod.refl _ _).setCell _ _ (fun _ => rfl), ?_⟩
    refine sq_end ?_
    obtain ⟨v', hv'⟩ : ∃ v', v' = Value.slice av (L.filter fun y => y.s != x.s).length cv := ⟨_, rfl⟩
    rw [← hv'] at HVV HS4 ⊢
    have hne5 : v'.ownBlock ≠ some t := by rw [HVV.out]; simp only [Value.ownBlock, ne_eq, Option.some.injEq]; exact fun h => nt h.symm
    have HP5 := Lib.hid (HP4.out.far (p := ⟨t, i, none⟩) H.out.ne_pt v')
    have HT5 := Lib.hid (HT4.out.set i v')
    have HMP5 := Lib.hid (HMP4.out.mod ((Mod.refl (fun b => b = t) w4).setCell ⟨t, i, none⟩ v' (fun _ => rfl)) (fun h => H.out.ne_tm h.symm))
    have HS5 := Lib.hid (HS4.out.far (p := ⟨t, i, none⟩) hne5 v')
    have HO5 := Lib.hid (show ∀ (j : Nat) (u : Value), j ≠ i → vs[j]? = some u → Sl 3 due 51 (w4.setCell ⟨t, i, none⟩ v') B u (P.filter fun y => y.t % n == j) from fun j u hj hu =>
      (HO4.out j u hj hu).far (p := ⟨t, i, none⟩) (fun h => (H.out.ne_own hu h).2.1 rfl) v')
    have HM5 := Lib.hid (HM4.out.setCell ⟨t, i, none⟩ v' (fun _ => H.out.ft))
    clear HP4 HT4 HMP4 HS4 HO4 HM4 HMG ct ft htl hne5 hpl hxl c0 hv'
    generalize w4.setCell ⟨t, i, none⟩ v' = W5 at *
    rw [List.setIfInBounds_toArray] at HT5
    obtain ⟨jx, hjx⟩ := List.mem_iff_getElem?.1 HX.out
    have HJ := Lib.hid hjx
    obtain ⟨W6, hdel, hmp6, hm6, -⟩ := HMP5.out.del_yes (P := Try.prog) mapT keyT (isK x.k) (j := jx) (by rw [List.getElem?_map, hjx]; rfl) 0
    have HMP6 := Lib.hid hmp6
    have HM6 := Lib.hid hm6
    have c1 := HP5.out.cell 1
    have hpl := HP5.out.lt
    simp only [List.getElem?_toArray, List.getElem?_cons_zero, List.getElem?_cons_succ] at c1
    clear hjx hmp6 hm6
    go_wp2_with fail
    go_ret
    refine ⟨rfl, ⟨vs.set i v', ?_⟩, HM5.out.trans (HM6.out.mono (fun b _ hb => by rw [hb]; exact H.out.fm))⟩
    have hmb := H.out.keys
    refine H0.out.dropped HX.out HI.out (HP5.out.mod HM6.out H.out.ne_pm) (HT5.out.mod HM6.out H.out.ne_tm) ?_ HV.out ?_ HVV.out (HM5.out.trans (HM6.out.mono (fun b _ hb => by rw [hb]; exact H.out.fm))) ?_
    · have := HMP6.out
      rw [map_eraseIdx, erase_filter (fun y => decide (y.k ≠ x.k)) P jx x HJ.out (by simp) (fun i y hi hy => by
        simp only [decide_eq_true_eq]
        exact fun he => hi (pair_inj hmb hy HJ.out (fun h => h he) (fun h => h he.symm)))] at this
      exact this
    · rw [HL.out]
      exact HS5.out.mod HM6.out (fun g' hg' e => by
        rw [HVV.out] at hg'
        simp only [Value.ownBlock, Option.some.injEq] at hg'
        exact mg (by rw [← e, hg']))
    · exact fun j u hj hu => (HO5.out j u hj hu).mod HM6.out (fun g' hg' e => (H.out.ne_own hu hg').2.2 e)
  · have hno : ∀ y ∈ P.map ent, y.1 ≠ .int .i64 (k) := by
      intro y hy he
      obtain ⟨z, hz, rfl⟩ := List.mem_map.1 hy
      exact hin ⟨z, hz, by simpa [ent] using he⟩
    have hlk := h.hm.lookup_no (P := Try.prog) mapT keyT (zeroD w) (isK k) hno true
    simp only [if_true] at hlk
    have hf : (P.filter fun y => decide (y.k ≠ k)) = P := List.filter_eq_self.2 fun y hy => by simp only [decide_eq_true_eq]; exact fun e => hin ⟨y, hy, e⟩
    have hany : (P.any fun y => decide (y.k = k)) = false := by
      rw [Bool.eq_false_iff]; intro ha
      simp only [List.any_eq_true, decide_eq_true_eq] at ha
      exact hin ha
    rw [hf, hany]
    clear h hno hf hany hin
    go_enter Try.func13, Try.ntmps13
    go_wp2_with fail
    go_ret
    have hb : Below w.heap.size w (w.alloc (.cells #[.int .i64 0, .int .i64 0, .int .i64 0] 51)) := (Below.refl _ _).alloc (Nat.le_refl _) _
    exact ⟨rfl, ⟨vs, H.out.below hb⟩, Mod.of_below hb⟩
end Wi

namespace Ws
variable {w w' : World} {B : Nat} {F : Nat → Prop} {p t m n : Nat} {vs : List Value} {P : List D} {now seq : Nat}
/-- One that is there is dropped. -/
theorem Wh.dropped {i : Nat} {x : D} {v' : Value} (h : Wh w B F p t m n vs P now seq) (hx : x ∈ P) (hi : i = x.t % n) (hp : At w' p 59 (hd n t m now seq)) (ht : At w' t 62 (vs.set i v').toArray)
    (hm : Mp (.string) w' m ((P.filter fun y => decide (y.k ≠ x.k)).map ent)) {v : Value} (hv : vs[i]? = some v) (hs : Sl 3 due 61 w' B v' ((P.filter fun y => y.t % n == i).filter fun y => y.s != x.s))
    (hvv : v'.ownBlock = v.ownBlock) (hM : Mod F w w') (ho : ∀ j u, j ≠ i → vs[j]? = some u → Sl 3 due 61 w' B u (P.filter fun y => y.t % n == j)) :
    Wh w' B F p t m n (vs.set i v') (P.filter fun y => decide (y.k ≠ x.k)) now seq := by
  have hil : i < vs.length := (List.getElem?_eq_some_iff.1 hv).1
  refine ⟨hp, ht, hm, by rw [List.length_set]; exact h.hn, h.n0, h.n1, ?_, ?_, h.fp, h.ft, h.fm, ?_, fun g hg => ⟨(h.fb g hg).1, Nat.lt_of_lt_of_le (h.fb g hg).2 hM.size⟩, h.sq.filter _, fun y hy => h.sb y (List.mem_filter.1 hy).1⟩
  · intro j u hu
    rw [List.getElem?_set] at hu
    rw [List.filter_filter]
    by_cases hij : i = j
    · subst hij
      rw [if_pos rfl, if_pos hil] at hu
      simp only [Option.some.injEq] at hu
      subst hu
      rw [List.filter_filter] at hs
      have e : P.filter (fun a => a.t % n == i && decide (a.k ≠ x.k)) = P.filter (fun a => a.s != x.s && a.t % n == i) :=
        List.filter_congr fun y hy => by rw [h.seq_key hx hy, Bool.and_comm]
      rw [e]
      exact hs
    · rw [if_neg hij] at hu
      have e : P.filter (fun a => a.t % n == j && decide (a.k ≠ x.k)) = P.filter (fun a => a.t % n == j) :=
        List.filter_congr fun y hy => by
          by_cases hk : y.k = x.k
          · have := h.key_inj hy hx hk
            subst this
            have : (y.t % n == j) = false := by rw [beq_eq_false_iff_ne]; omega
            rw [this]; rfl
          · simp [hk]
      rw [e]
      exact ho j u (Ne.symm hij) hu
  · intro a b u u' g hu hu' hg hg'
    have key : ∀ (a : Nat) (u : Value), (vs.set i v')[a]? = some u → ∃ u0, vs[a]? = some u0 ∧ u.ownBlock = u0.ownBlock := by
      intro a u hu
      rw [List.getElem?_set] at hu
      split at hu
      · rename_i hia
        subst hia
        simp only [Option.some.injEq] at hu
        subst hu
        exact ⟨v, hv, hvv⟩
      · exact ⟨u, hu, rfl⟩
    obtain ⟨u0, h0, e0⟩ := key a u hu
    obtain ⟨u1, h1, e1⟩ := key b u' hu'
    exact h.own a b u0 u1 g h0 h1 (e0 ▸ hg) (e1 ▸ hg')
  · intro a u g hu hg
    rw [List.getElem?_set] at hu
    split at hu
    · rename_i hia
      subst hia
      simp only [Option.some.injEq] at hu
      subst hu
      exact h.fo i v g hv (hvv ▸ hg)
    · exact h.fo a u g hu hg
set_option maxHeartbeats 2000000 in
theorem drop_any (k : K) (h : Wh w B F p t m n vs P now seq) (hbig : P.length ≤ 1073741824) :
    Calls Try.prog 20 #[.pointer (some ⟨p, 0, none⟩), .string (k)] w fun e w' =>
      e = .returned (.bool (P.any fun y => decide (y.k = k))) ∧ (∃ vs', Wh w' B F p t m n vs' (P.filter fun y => decide (y.k ≠ k)) now seq) ∧ Mod F w w' := by
  have H := Lib.hid h
  have H0 := H
  have c0 := h.hp.cell 0
  have c1 := h.hp.cell 1
  have hpl := h.hp.lt
  simp only [List.getElem?_toArray, List.getElem?_cons_zero, List.getElem?_cons_succ] at c0 c1
  by_cases hin : ∃ x ∈ P, x.k = k
  · obtain ⟨x, hx, rfl⟩ := hin
    have hlk := h.hm.lookup_yes (P := Try.prog) mapT keyT (isK x.k) (List.mem_map_of_mem (f := ent) hx) true
    simp only [if_true] at hlk
    have hany : (P.any fun y => decide (y.k = x.k)) = true := by simp only [List.any_eq_true, decide_eq_true_eq]; exact ⟨x, hx, rfl⟩
    rw [hany]
    have HX := Lib.hid hx
    clear h hany hx
    go_enter Try.func20, Try.ntmps20
    go_wp2_with fail
    obtain ⟨bx, hbx⟩ : ∃ bx, bx = w.heap.size := ⟨_, rfl⟩
    have HX0 := Lib.hid (at_new w 61 #[.string (x.k), .int .i64 (x.t : Nat), .int .i64 (x.s : Nat)] bx hbx)
    have HF := Lib.hid (show ¬ F bx by rw [hbx]; intro hf; have := (H.out.fb _ hf).2; omega)
    have hb : Below w.heap.size w (w.alloc (.cells #[.string (x.k), .int .i64 (x.t : Nat), .int .i64 (x.s : Nat)] 61)) := (Below.refl _ _).alloc (Nat.le_refl _) _
    have HM := Lib.hid (show Mod F w _ from Mod.of_below hb)
    replace H := Lib.hid (H.out.below hb)
    rw [← hbx]
    clear hbx hb c0 c1 hlk hpl
    generalize w.alloc (.cells #[.string (x.k), .int .i64 (x.t : Nat), .int .i64 (x.s : Nat)] 61) = W at *
    have c0 := H.out.hp.cell 0
    have cx := HX0.out.cell 1
    have hpl := H.out.hp.lt
    have hxl := HX0.out.lt
    simp only [List.getElem?_toArray, List.getElem?_cons_zero, List.getElem?_cons_succ] at c0 cx
    obtain ⟨i, hi⟩ : ∃ i, i = x.t % n := ⟨_, rfl⟩
    have HI := Lib.hid hi
    have hin : i < n := by rw [hi]; exact Nat.mod_lt _ H.out.n0
    have hn0 : ¬ n = 0 := by have := H.out.n0; omega
    have hmod : Int.tmod (x.t : Int) (n : Int) = (i : Int) := by rw [hi]; rfl
    clear hi
    refine region_sq (fun _ => False) [(0, true), (1, true), (2, true), (3, true), (4, true), (5, true), (6, true), (7, true), (8, true)] (by kernel_rfl) (by kernel_rfl) (fun _ _ d _ _ h => by cases d <;> exact h) ?_
    repeat (first
        | (refine sq_yes rfl (by rfl) (fun w' hM => by ((try replace hM := hM.of_drew); obtain ⟨hR1, hR2, hR3⟩ := hM.rules; clear hM; go_simp; with_reducible rfl)) ?_; simp only [Act.put, List.setIfInBounds_toArray, List.set_cons_zero, List.set_cons_succ])
        | (refine sq_no rfl (by rfl) ?_; simp only [Act.put, List.setIfInBounds_toArray, List.set_cons_zero, List.set_cons_succ]))
    refine sq_end ?_
    clear hmod hn0 cx
    replace HM := Lib.hid HM.out.drew
    replace H := Lib.hid H.out.drew
    replace HX0 := Lib.hid HX0.out.drew
    generalize W.drew = W2 at *
    obtain ⟨v, hv⟩ : ∃ v, vs[i]? = some v := ⟨_, List.getElem?_eq_getElem (by have := H.out.hn; omega)⟩
    have hxL : x ∈ P.filter (fun y => y.t % n == i) := List.mem_filter.2 ⟨HX.out, by rw [HI.out]; simp⟩
    have hsl := H.out.sl i v hv
    have HLE := Lib.hid (show (P.filter (fun y => y.t % n == i)).length ≤ P.length from List.length_filter_le _ _)
    generalize hL : P.filter (fun y => y.t % n == i) = L at *
    obtain ⟨jj, hjj⟩ := List.mem_iff_getElem?.1 hxL
    obtain ⟨aa, cc, rfl⟩ := hsl.form
    obtain ⟨g, rfl, -, -, -, -, -⟩ := hsl.cells due_len hjj
    have hno := H.out.ne_own hv (g := g) rfl
    have HV := Lib.hid hv
    have HL := Lib.hid hL
    have HS := Lib.hid hsl
    have c0 := H.out.hp.cell 0
    have ct := H.out.ht.cell i
    rw [List.getElem?_toArray, hv] at ct
    have hpl := H.out.hp.lt
    have htl := H.out.ht.lt
    have ft := H.out.ht.frozen i
    simp only [List.getElem?_toArray, List.getElem?_cons_zero] at c0
    have np : ¬ p = g := fun h => hno.1 h.symm
    have nt : ¬ t = g := fun h => hno.2.1 h.symm
    have hinz : (i : Int) < (n : Int) := by omega
    clear hno hv hsl hL hjj hxL
    go_wp2_with fail
    refine region_sq2 (fun b => b = g) (fun b => b = t) [(0, true), (1, true), (2, true), (3, true), (4, true), (5, true), (6, true), (7, true), (8, true), (9, true), (10, true), (11, true), (12, false), (13, false), (14, true)] [(15, false)] (by kernel_rfl) (by kernel_rfl) (fun _ _ d _ _ h => by cases d <;> exact h) ?_
    repeat (first
        | (refine sq_yes rfl (by rfl) (fun w' hM => by ((try replace hM := hM.of_drew); obtain ⟨hR1, hR2, hR3⟩ := hM.rules; clear hM; go_simp; with_reducible rfl)) ?_; simp only [Act.put, List.setIfInBounds_toArray, List.set_cons_zero, List.set_cons_succ])
        | (refine sq_no rfl (by rfl) ?_; simp only [Act.put, List.setIfInBounds_toArray, List.set_cons_zero, List.set_cons_succ]))
    replace H := Lib.hid H.out.drew
    replace HM := Lib.hid HM.out.drew
    replace HX0 := Lib.hid HX0.out.drew
    replace HS := Lib.hid HS.out.drew
    generalize W2.drew = W3 at *
    refine sq_do_yes rfl (by rfl) (fun K_ hK_ => ?_)
    go_wp2_with fail
    refine ⟨Mod.refl _ _, ?_⟩
    refine sq_do_yes rfl (by rfl) (fun K_ hK_ => ?_)
    go_wp2_with fail
    have hFg : F g := H.out.fo i _ g HV.out rfl
    refine (del_any bx x _ B L W3 HX0.out HS.out (by have := HLE.out; omega) (fun hh => HF.out (by simp only [Value.ownBlock, Option.some.injEq] at hh; exact hh ▸ hFg))).mono ?_
    rintro e w4 ⟨v', rfl, hs', hvv, hm'⟩
    have hm : Mod (fun b => b = g) W3 w4 := hm'.mono (fun b _ hb => (Option.some.inj hb).symm)
    have mg : ¬ m = g := fun h => (H.out.ne_own HV.out (g := g) rfl).2.2 h.symm
    have HP4 := Lib.hid (H.out.hp.mod hm np)
    have HT4 := Lib.hid (H.out.ht.mod hm nt)
    have HMP4 := Lib.hid (H.out.hm.mod hm mg)
    have HO4 := Lib.hid (show ∀ (j : Nat) (u : Value), j ≠ i → vs[j]? = some u → Sl 3 due 61 w4 B u (P.filter fun y => y.t % n == j) from fun j u hj hu =>
      (H.out.sl j u hu).mod hm (fun g' hg' e => hj (H.out.own j i u _ g hu HV.out (e ▸ hg') rfl)))
    have HS4 := Lib.hid hs'
    have HVV := Lib.hid hvv
    have HM4 := Lib.hid (HM.out.trans (hm.mono (fun b _ hb => by rw [hb]; exact hFg)))
    obtain ⟨av, cv, rfl⟩ := hs'.form
    have HMG := Lib.hid hm
    clear hm hm' hs' hvv ct hpl htl ft c0 HS HX0
    have ct := HT4.out.cell i
    have ft := HT4.out.frozen i
    rw [List.getElem?_toArray, HV.out] at ct
    have htl := HT4.out.lt
    go_wp2_with fail
    refine ⟨HMG.out, ?_⟩
    repeat (first
        | (refine sq_yes rfl (by rfl) (fun w' hM => by ((try replace hM := hM.of_drew); obtain ⟨hR1, hR2, hR3⟩ := hM.rules; clear hM; go_simp; with_reducible rfl)) ?_; simp only [Act.put, List.setIfInBounds_toArray, List.set_cons_zero, List.set_cons_succ])
        | (refine sq_no rfl (by rfl) ?_; simp only [Act.put, List.setIfInBounds_toArray, List.set_cons_zero, List.set_cons_succ]))
    refine sq_end ?_
    refine sq_do_yes rfl (by rfl) (fun K_ hK_ => ?_)
    go_wp2_with fail
    refine ⟨(Mod.refl _ _).setCell _ _ (fun _ => rfl), ?_⟩
    refine sq_end ?_
    obtain ⟨v', hv'⟩ : ∃ v', v' = Value.slice av (L.filter fun y => y.s != x.s).length cv := ⟨_, rfl⟩
    rw [← hv'] at HVV HS4 ⊢
    have hne5 : v'.ownBlock ≠ some t := by rw [HVV.out]; simp only [Value.ownBlock, ne_eq, Option.some.injEq]; exact fun h => nt h.symm
    have HP5 := Lib.hid (HP4.out.far (p := ⟨t, i, none⟩) H.out.ne_pt v')
    have HT5 := Lib.hid (HT4.out.set i v')
    have HMP5 := Lib.hid (HMP4.out.mod ((Mod.refl (fun b => b = t) w4).setCell ⟨t, i, none⟩ v' (fun _ => rfl)) (fun h => H.out.ne_tm h.symm))
    have HS5 := Lib.hid (HS4.out.far (p := ⟨t, i, none⟩) hne5 v')
    have HO5 := Lib.hid (show ∀ (j : Nat) (u : Value), j ≠ i → vs[j]? = some u → Sl 3 due 61 (w4.setCell ⟨t, i, none⟩ v') B u (P.filter fun y => y.t % n == j) from fun j u hj hu =>
      (HO4.out j u hj hu).far (p := ⟨t, i, none⟩) (fun h => (H.out.ne_own hu h).2.1 rfl) v')
    have HM5 := Lib.hid (HM4.out.setCell ⟨t, i, none⟩ v' (fun _ => H.out.ft))
    clear HP4 HT4 HMP4 HS4 HO4 HM4 HMG ct ft htl hne5 hpl hxl c0 hv'
    generalize w4.setCell ⟨t, i, none⟩ v' = W5 at *
    rw [List.setIfInBounds_toArray] at HT5
    obtain ⟨jx, hjx⟩ := List.mem_iff_getElem?.1 HX.out
    have HJ := Lib.hid hjx
    obtain ⟨W6, hdel, hmp6, hm6, -⟩ := HMP5.out.del_yes (P := Try.prog) mapT keyT (isK x.k) (j := jx) (by rw [List.getElem?_map, hjx]; rfl) 0
    have HMP6 := Lib.hid hmp6
    have HM6 := Lib.hid hm6
    have c1 := HP5.out.cell 1
    have hpl := HP5.out.lt
    simp only [List.getElem?_toArray, List.getElem?_cons_zero, List.getElem?_cons_succ] at c1
    clear hjx hmp6 hm6
    go_wp2_with fail
    go_ret
    refine ⟨rfl, ⟨vs.set i v', ?_⟩, HM5.out.trans (HM6.out.mono (fun b _ hb => by rw [hb]; exact H.out.fm))⟩
    have hmb := H.out.keys
    refine H0.out.dropped HX.out HI.out (HP5.out.mod HM6.out H.out.ne_pm) (HT5.out.mod HM6.out H.out.ne_tm) ?_ HV.out ?_ HVV.out (HM5.out.trans (HM6.out.mono (fun b _ hb => by rw [hb]; exact H.out.fm))) ?_
    · have := HMP6.out
      rw [map_eraseIdx, erase_filter (fun y => decide (y.k ≠ x.k)) P jx x HJ.out (by simp) (fun i y hi hy => by
        simp only [decide_eq_true_eq]
        exact fun he => hi (pair_inj hmb hy HJ.out (fun h => h he) (fun h => h he.symm)))] at this
      exact this
    · rw [HL.out]
      exact HS5.out.mod HM6.out (fun g' hg' e => by
        rw [HVV.out] at hg'
        simp only [Value.ownBlock, Option.some.injEq] at hg'
        exact mg (by rw [← e, hg']))
    · exact fun j u hj hu => (HO5.out j u hj hu).mod HM6.out (fun g' hg' e => (H.out.ne_own hu hg').2.2 e)
  · have hno : ∀ y ∈ P.map ent, y.1 ≠ .string (k) := by
      intro y hy he
      obtain ⟨z, hz, rfl⟩ := List.mem_map.1 hy
      exact hin ⟨z, hz, by simpa [ent] using he⟩
    have hlk := h.hm.lookup_no (P := Try.prog) mapT keyT (zeroD w) (isK k) hno true
    simp only [if_true] at hlk
    have hf : (P.filter fun y => decide (y.k ≠ k)) = P := List.filter_eq_self.2 fun y hy => by simp only [decide_eq_true_eq]; exact fun e => hin ⟨y, hy, e⟩
    have hany : (P.any fun y => decide (y.k = k)) = false := by
      rw [Bool.eq_false_iff]; intro ha
      simp only [List.any_eq_true, decide_eq_true_eq] at ha
      exact hin ha
    rw [hf, hany]
    clear h hno hf hany hin
    go_enter Try.func20, Try.ntmps20
    go_wp2_with fail
    go_ret
    have hb : Below w.heap.size w (w.alloc (.cells #[.string ⟨#[]⟩, .int .i64 0, .int .i64 0] 61)) := (Below.refl _ _).alloc (Nat.le_refl _) _
    exact ⟨rfl, ⟨vs, H.out.below hb⟩, Mod.of_below hb⟩
end Ws
end Go.Proofs.Ytaadkehopfjclaa
