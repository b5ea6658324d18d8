/-
  The wheel's methods, one contract each, for keys that are ints and keys that are strings.
-/
import Derived.Test.YtaadkehopfjclaaWhDrop
import Derived.WalkSpells
import Derived.WalkLawsBesides
import Derived.Lib.Hide
import Derived.Laws.MakeOwn
import Derived.OwnWalk
import Derived.Shelf.Abstract
namespace Go.Proofs.Ytaadkehopfjclaa
open Go.RowKit Go.MapKept Go.Shelf

namespace Wi
variable {w w' : World} {B : Nat} {F : Nat → Prop} {p t m n : Nat} {vs : List Value} {P : List D} {now seq : Nat}
theorem set_no (k : K) (a : Int) (h : Wh w B F p t m n vs P now seq) (ha : ¬ ((now : Int) < a ∧ a ≤ 1099511627776)) :
    Calls Try.prog 8 #[.pointer (some ⟨p, 0, none⟩), .int .i64 (k), .int .i64 a] w fun e w' => e = .returned (.int .i64 1) ∧ w' = w := by
  have c2 := h.hp.cell 2
  simp only [List.getElem?_toArray, List.getElem?_cons_zero, List.getElem?_cons_succ] at c2
  have hcase : (a ≤ (now : Int)) ∨ (decide (a ≤ (now : Int)) = false ∧ 1099511627776 < a) := by
    simp only [decide_eq_false_iff_not]; omega
  clear h ha
  rcases hcase with d1 | ⟨d1, d2⟩ <;>
  · go_enter Try.func8, Try.ntmps8
    go_wp2_with fail
    go_ret
    exact ⟨rfl, rfl⟩
/-- One is added, behind all. -/
theorem Wh.added {i : Nat} {x : D} {v v' : Value} (h : Wh w B F p t m n vs P now seq) (hi : i = x.t % n) (hxs : x.s = seq + 1) (hp : At w' p 49 (hd n t m now (seq + 1))) (ht : At w' t 52 (vs.set i v').toArray)
    (hm : Mp (.int .i64) w' m ((P ++ [x]).map ent)) (hv : vs[i]? = some v) (hs : Sl 3 due 51 w' B v' (P.filter (fun y => y.t % n == i) ++ [x]))
    (hvv : v'.ownBlock = v.ownBlock ∨ ∃ g, v'.ownBlock = some g ∧ w.heap.size ≤ g) (hM : w.heap.size ≤ w'.heap.size) (ho : ∀ (j : Nat) (u : Value), j ≠ i → vs[j]? = some u → Sl 3 due 51 w' B u (P.filter fun y => y.t % n == j)) :
    Wh w' B (fun g => F g ∨ v'.ownBlock = some g) p t m n (vs.set i v') (P ++ [x]) now (seq + 1) := by
  have hil : i < vs.length := (List.getElem?_eq_some_iff.1 hv).1
  have look : ∀ (a : Nat) (u : Value), (vs.set i v')[a]? = some u → (a = i ∧ u = v') ∨ (a ≠ i ∧ vs[a]? = some u) := by
    intro a u hu
    rw [List.getElem?_set] at hu
    split at hu
    · rename_i hia
      simp only [Option.some.injEq] at hu
      exact .inl ⟨hia.symm, hu.symm⟩
    · rename_i hia
      exact .inr ⟨fun e => hia e.symm, hu⟩
  refine ⟨hp, ht, hm, by rw [List.length_set]; exact h.hn, h.n0, h.n1, ?_, ?_, .inl h.fp, .inl h.ft, .inl h.fm, ?_, ?_, ?_, ?_⟩
  · intro j u hu
    rw [List.filter_append]
    rcases look j u hu with ⟨rfl, rfl⟩ | ⟨hj, hu⟩
    · have e : [x].filter (fun y => y.t % n == j) = [x] := by simp [hi]
      rw [e]
      exact hs
    · have e : [x].filter (fun y => y.t % n == j) = [] := by simp [← hi, Ne.symm hj]
      rw [e, List.append_nil]
      exact ho j u hj hu
  · intro a b u u' g hu hu' hg hg'
    have key : ∀ (a : Nat) (u : Value), a ≠ i → vs[a]? = some u → u.ownBlock = some g → v'.ownBlock = some g → False := by
      intro a u ha hu hg hg'
      rcases hvv with e | ⟨g', e, hge⟩
      · exact ha (h.own a i u v g hu hv hg (e ▸ hg'))
      · have := (h.fb g (h.fo a u g hu hg)).2
        rw [e] at hg'
        simp only [Option.some.injEq] at hg'
        omega
    rcases look a u hu with ⟨ea, eu⟩ | ⟨ha, h1⟩ <;> rcases look b u' hu' with ⟨eb, eu'⟩ | ⟨hb, h2⟩
    · rw [ea, eb]
    · exact (key b u' hb h2 hg' (eu ▸ hg)).elim
    · exact (key a u ha h1 hg (eu' ▸ hg')).elim
    · exact h.own a b u u' g h1 h2 hg hg'
  · intro a u g hu hg
    rcases look a u hu with ⟨rfl, rfl⟩ | ⟨ha, hu⟩
    · exact .inr hg
    · exact .inl (h.fo a u g hu hg)
  · rintro g (hg | hg)
    · exact ⟨(h.fb g hg).1, Nat.lt_of_lt_of_le (h.fb g hg).2 hM⟩
    · exact hs.ge hg
  · rw [List.pairwise_append]
    refine ⟨h.sq, List.pairwise_singleton _ _, fun y hy z hz => ?_⟩
    simp only [List.mem_singleton] at hz
    subst hz
    have := h.sb y hy
    omega
  · intro y hy
    rcases List.mem_append.1 hy with hy | hy
    · have := h.sb y hy; omega
    · simp only [List.mem_singleton] at hy
      subst hy; omega
set_option maxHeartbeats 2000000 in
theorem set_any (k : K) (a : Nat) (h : Wh w B F p t m n vs P now seq) (ha : now < a) (ha2 : a ≤ 1099511627776) (hseq : seq ≤ 1152921504606846976) (hbig : P.length ≤ 1048576) :
    Calls Try.prog 8 #[.pointer (some ⟨p, 0, none⟩), .int .i64 (k), .int .i64 (a : Nat)] w fun e w' =>
      e = .returned (.int .i64 0) ∧ (∃ F' vs', Wh w' B F' p t m n vs' (P.filter (fun y => decide (y.k ≠ k)) ++ [⟨k, a, seq + 1⟩]) now (seq + 1) ∧ ∀ g, F' g → F g ∨ w.heap.size ≤ g) ∧ Mod F w w' := by
  have H := Lib.hid h
  have H0 := H
  have c2 := h.hp.cell 2
  have hpl := h.hp.lt
  simp only [List.getElem?_toArray, List.getElem?_cons_zero, List.getElem?_cons_succ] at c2
  have d1 : decide ((a : Int) ≤ (now : Int)) = false := by simp; omega
  have d2 : decide (1099511627776 < (a : Int)) = false := by simp; omega
  clear h
  go_enter Try.func8, Try.ntmps8
  go_wp2_with fail
  refine (drop_any k H.out (by omega)).mono ?_
  rintro e w1 ⟨rfl, ⟨vs1, h1⟩, hm⟩
  have HM := Lib.hid hm
  have HLE := Lib.hid (show (P.filter (fun y => decide (y.k ≠ k))).length ≤ P.length from List.length_filter_le _ _)
  have HK := Lib.hid (show ∀ y ∈ P.filter (fun y => decide (y.k ≠ k)), y.k ≠ k from fun y hy => by simpa using (List.mem_filter.1 hy).2)
  have HSZ := Lib.hid hm.size
  generalize hP1 : P.filter (fun y => decide (y.k ≠ k)) = P1 at *
  have HP1 := Lib.hid hP1
  clear hP1
  generalize (P.any fun y => decide (y.k = k)) = anyb at *
  have H1 := Lib.hid h1
  clear c2 hpl hm d1 d2 H
  have c3 := h1.hp.cell 3
  have c0 := h1.hp.cell 0
  have f3 := h1.hp.frozen 3
  have hpl := h1.hp.lt
  simp only [List.getElem?_toArray, List.getElem?_cons_zero, List.getElem?_cons_succ] at c0 c3
  obtain ⟨i, hi⟩ : ∃ i, i = a % n := ⟨_, rfl⟩
  have HI := Lib.hid hi
  have hin : i < n := by rw [hi]; exact Nat.mod_lt _ h1.n0
  have hn0 : ¬ n = 0 := by have := h1.n0; omega
  have hmod : Int.tmod (a : Int) (n : Int) = (i : Int) := by rw [hi]; rfl
  clear hi h1
  go_wp2_with fail
  rw [show ((seq : Int) + 1) = ((seq + 1 : Nat) : Int) from rfl]
  obtain ⟨sq', hsq⟩ : ∃ s, s = seq + 1 := ⟨_, rfl⟩
  rw [← hsq]
  obtain ⟨bx, hbx⟩ : ∃ bx, bx = w1.heap.size := ⟨_, rfl⟩
  rw [← hbx]
  have nF : ¬ F bx := fun hf => by have := (H1.out.fb bx hf).2; omega
  have hset : Mod (fun b => b = p) w1 (w1.setCell ⟨p, 3, none⟩ (.int .i64 (sq' : Nat))) := (Mod.refl _ _).setCell ⟨p, 3, none⟩ _ (fun _ => rfl)
  have HP := Lib.hid ((H1.out.hp.set 3 (.int .i64 (sq' : Nat))).alloc (.cells #[.int .i64 (k), .int .i64 (a : Nat), .int .i64 (sq' : Nat)] 51))
  have HT := Lib.hid ((H1.out.ht.mod hset (fun h => H1.out.ne_pt h.symm)).alloc (.cells #[.int .i64 (k), .int .i64 (a : Nat), .int .i64 (sq' : Nat)] 51))
  have HMP := Lib.hid ((H1.out.hm.mod hset (fun h => H1.out.ne_pm h.symm)).alloc (.cells #[.int .i64 (k), .int .i64 (a : Nat), .int .i64 (sq' : Nat)] 51))
  have HSL := Lib.hid (show ∀ (j : Nat) (u : Value), vs1[j]? = some u → Sl 3 due 51 _ B u (P1.filter fun y => y.t % n == j) from fun j u hu =>
    ((H1.out.sl j u hu).mod hset (fun g hg e => (H1.out.ne_own hu hg).1 e)).alloc (.cells #[.int .i64 (k), .int .i64 (a : Nat), .int .i64 (sq' : Nat)] 51))
  have HBX := Lib.hid (at_new (w1.setCell ⟨p, 3, none⟩ (.int .i64 (sq' : Nat))) 51 #[.int .i64 (k), .int .i64 (a : Nat), .int .i64 (sq' : Nat)] bx (by rw [hbx]; simp [World.setCell]))
  replace HM := Lib.hid ((HM.out.setCell ⟨p, 3, none⟩ (.int .i64 (sq' : Nat)) (fun _ => H1.out.fp)).alloc (.cells #[.int .i64 (k), .int .i64 (a : Nat), .int .i64 (sq' : Nat)] 51))
  have HGW := Lib.hid (show w1.heap.size ≤ ((w1.setCell ⟨p, 3, none⟩ (.int .i64 (sq' : Nat))).alloc (.cells #[.int .i64 (k), .int .i64 (a : Nat), .int .i64 (sq' : Nat)] 51)).heap.size by simp [World.setCell])
  have HN := Lib.hid nF
  have HSQ := Lib.hid hsq
  clear hset c3 c0 f3 hpl hmod hn0 hbx nF hsq
  generalize (w1.setCell ⟨p, 3, none⟩ (.int .i64 (sq' : Nat))).alloc (.cells #[.int .i64 (k), .int .i64 (a : Nat), .int .i64 (sq' : Nat)] 51) = W at *
  obtain ⟨v, hv⟩ : ∃ v, vs1[i]? = some v := ⟨_, List.getElem?_eq_getElem (by have := H1.out.hn; omega)⟩
  have HV := Lib.hid hv
  have HLE2 := Lib.hid (show (P1.filter (fun y => y.t % n == i)).length ≤ P1.length from List.length_filter_le _ _)
  have HS := Lib.hid (HSL.out i v hv)
  obtain ⟨M, hM⟩ : ∃ M : Nat → Prop, M = fun b => v.ownBlock = some b := ⟨_, rfl⟩
  have HMM := Lib.hid hM
  have np : ¬ M p := by rw [hM]; exact fun h => (H1.out.ne_own hv h).1 rfl
  have nt : ¬ M t := by rw [hM]; exact fun h => (H1.out.ne_own hv h).2.1 rfl
  have nb : ¬ M bx := by rw [hM]; exact fun h => HN.out (H1.out.fo i v bx hv h)
  obtain ⟨av, cv, rfl⟩ := HS.out.form
  have hinz : (i : Int) < (n : Int) := by omega
  have c0 := HP.out.cell 0
  have hpl := HP.out.lt
  have ct := HT.out.cell i
  have htl := HT.out.lt
  rw [List.getElem?_toArray, hv] at ct
  have cb0 := HBX.out.cell 0
  have cb1 := HBX.out.cell 1
  have cb2 := HBX.out.cell 2
  have hbl := HBX.out.lt
  simp only [List.getElem?_toArray, List.setIfInBounds_toArray, List.set_cons_zero, List.set_cons_succ, List.getElem?_cons_zero, List.getElem?_cons_succ] at c0 cb0 cb1 cb2
  clear hv hM
  refine region_sq2 M (fun b => b = t) [(0, true), (1, true), (2, true), (3, true), (4, true), (5, true), (6, true), (7, true), (8, true), (9, true), (10, true), (11, true), (12, true), (13, false), (14, false), (15, true)] [(16, false)] (by kernel_rfl) (by kernel_rfl) (fun _ _ d _ _ h => by cases d <;> exact h) ?_
  repeat (first
      | (refine sq_yes rfl (by rfl) (fun w' hM => by ((try replace hM := hM.of_drew); obtain ⟨hR1, hR2, hR3⟩ := hM.rules; clear hM; go_simp; with_reducible rfl)) ?_; simp only [Act.put, List.setIfInBounds_toArray, List.set_cons_zero, List.set_cons_succ])
      | (refine sq_no rfl (by rfl) ?_; simp only [Act.put, List.setIfInBounds_toArray, List.set_cons_zero, List.set_cons_succ]))
  replace HP := Lib.hid HP.out.drew
  replace HT := Lib.hid HT.out.drew
  replace HMP := Lib.hid HMP.out.drew
  replace HSL := Lib.hid (show ∀ (j : Nat) (u : Value), vs1[j]? = some u → Sl 3 due 51 W.drew B u (P1.filter fun y => y.t % n == j) from fun j u hu => (HSL.out j u hu).drew)
  replace HBX := Lib.hid HBX.out.drew
  replace HM := Lib.hid HM.out.drew
  replace HS := Lib.hid HS.out.drew
  replace HGW := Lib.hid (show w1.heap.size ≤ W.drew.heap.size from HGW.out)
  clear c0 hpl ct htl cb0 cb1 cb2 hbl
  generalize W.drew = W2 at *
  generalize hLq : P1.filter (fun y => y.t % n == i) = L at *
  refine sq_do_yes rfl (by rfl) (fun K_ hK_ => ?_)
  go_wp2_with fail
  refine ⟨(Mod.refl _ _).alloc _, ?_⟩
  obtain ⟨gx, hgx⟩ : ∃ gx, gx = W2.heap.size := ⟨_, rfl⟩
  rw [← hgx]
  have HX := Lib.hid (Rd.one (k := 3) (enc := due) (x := (⟨k, a, sq'⟩ : D)) (at_new W2 51 #[.int .i64 (k), .int .i64 (a : Nat), .int .i64 (sq' : Nat)] gx hgx) rfl)
  replace HP := Lib.hid (HP.out.alloc (.cells #[.int .i64 (k), .int .i64 (a : Nat), .int .i64 (sq' : Nat)] 51))
  replace HT := Lib.hid (HT.out.alloc (.cells #[.int .i64 (k), .int .i64 (a : Nat), .int .i64 (sq' : Nat)] 51))
  replace HMP := Lib.hid (HMP.out.alloc (.cells #[.int .i64 (k), .int .i64 (a : Nat), .int .i64 (sq' : Nat)] 51))
  replace HSL := Lib.hid (show ∀ (j : Nat) (u : Value), vs1[j]? = some u → Sl 3 due 51 _ B u (P1.filter fun y => y.t % n == j) from fun j u hu => (HSL.out j u hu).alloc (.cells #[.int .i64 (k), .int .i64 (a : Nat), .int .i64 (sq' : Nat)] 51))
  replace HBX := Lib.hid (HBX.out.alloc (.cells #[.int .i64 (k), .int .i64 (a : Nat), .int .i64 (sq' : Nat)] 51))
  replace HM := Lib.hid (HM.out.alloc (.cells #[.int .i64 (k), .int .i64 (a : Nat), .int .i64 (sq' : Nat)] 51))
  replace HS := Lib.hid (HS.out.alloc (.cells #[.int .i64 (k), .int .i64 (a : Nat), .int .i64 (sq' : Nat)] 51))
  replace HGW := Lib.hid (show w1.heap.size ≤ (W2.alloc (.cells #[.int .i64 (k), .int .i64 (a : Nat), .int .i64 (sq' : Nat)] 51)).heap.size by have := HGW.out; simp; omega)
  have HBB := Lib.hid (show B ≤ (W2.alloc (.cells #[.int .i64 (k), .int .i64 (a : Nat), .int .i64 (sq' : Nat)] 51)).heap.size by have := HGW.out; have := H1.out.fb p H1.out.fp; omega)
  clear hgx
  generalize W2.alloc (.cells #[.int .i64 (k), .int .i64 (a : Nat), .int .i64 (sq' : Nat)] 51) = W3 at *
  refine sq_do_yes rfl (by rfl) (fun K_ hK_ => ?_)
  refine wp_sl_app (L2 := [(⟨k, a, sq'⟩ : D)]) (n := 1) due_len due_one slT infoD rfl (by decide) HS.out HX.out (by have h1 := HLE2.out; have h2 := HLE.out; unfold maxLen; simp <;> omega) (by have h1 := HLE2.out; have h2 := HLE.out; simp <;> omega) HBB.out rfl rfl rfl ?_
  intro v' W4 hs4 hm4 ho4
  refine hK_ _ _ ⟨hm4.mono (fun b _ hb => by rw [HMM.out]; exact hb), ?_⟩
  simp only [Act.put, List.setIfInBounds_toArray, List.set_cons_zero, List.set_cons_succ]
  repeat (first
      | (refine sq_yes rfl (by rfl) (fun w' hM => by ((try replace hM := hM.of_drew); obtain ⟨hR1, hR2, hR3⟩ := hM.rules; clear hM; go_simp; with_reducible rfl)) ?_; simp only [Act.put, List.setIfInBounds_toArray, List.set_cons_zero, List.set_cons_succ])
      | (refine sq_no rfl (by rfl) ?_; simp only [Act.put, List.setIfInBounds_toArray, List.set_cons_zero, List.set_cons_succ]))
  refine sq_end ?_
  try clear hK_
  have nm : ∀ g, (Value.slice av L.length cv).ownBlock = some g → g ≠ m := fun g hg => (H1.out.ne_own HV.out hg).2.2
  have hm5 : Mod M W3 W4 := hm4.mono (fun b _ hb => by rw [HMM.out]; exact hb)
  replace HP := Lib.hid (HP.out.mod hm5 np)
  replace HT := Lib.hid (HT.out.mod hm5 nt)
  replace HMP := Lib.hid (HMP.out.mod hm4 (fun h => nm m h rfl))
  replace HSL := Lib.hid (show ∀ (j : Nat) (u : Value), j ≠ i → vs1[j]? = some u → Sl 3 due 51 W4 B u (P1.filter fun y => y.t % n == j) from fun j u hj hu => (HSL.out j u hu).mod hm4 (fun g hg e => hj (H1.out.own j i u _ g hu HV.out hg e)))
  replace HBX := Lib.hid (HBX.out.mod hm5 nb)
  replace HM := Lib.hid (HM.out.trans (hm4.mono (fun b _ hb => H1.out.fo i _ b HV.out hb)))
  have HO := Lib.hid (show v'.ownBlock = (Value.slice av L.length cv).ownBlock ∨ ∃ g, v'.ownBlock = some g ∧ w1.heap.size ≤ g from ho4.imp id fun h => ⟨_, h, HGW.out⟩)
  replace HGW := Lib.hid (Nat.le_trans HGW.out hm4.size)
  have hne5 : ∀ g, v'.ownBlock = some g → g ≠ p ∧ g ≠ t ∧ g ≠ m := fun g hg => by
    obtain ⟨cs, hc⟩ := slAt hs4 hg
    exact ⟨hc.ne HP.out (by decide), hc.ne HT.out (by decide), HMP.out.notAt hc⟩
  have HS4 := Lib.hid hs4
  have ct := HT.out.cell i
  have ft := HT.out.frozen i
  have htl := HT.out.lt
  rw [List.getElem?_toArray, HV.out] at ct
  obtain ⟨av', cv', he'⟩ := hs4.form
  clear HS HX HBB hm4 hm5 ho4 hs4 nm np nt nb HMM
  obtain ⟨nlen, hnlen⟩ : ∃ q, q = (L ++ [(⟨k, a, sq'⟩ : D)]).length := ⟨_, rfl⟩
  rw [← hnlen] at he'
  clear hnlen
  subst he'
  refine sq_do_yes rfl (by rfl) (fun K_ hK_ => ?_)
  go_wp2_with fail
  refine ⟨(Mod.refl _ _).setCell _ _ (fun _ => rfl), ?_⟩
  refine sq_end ?_
  try clear hK_
  try clear K_
  obtain ⟨v', hv'⟩ : ∃ v', v' = Value.slice av' nlen cv' := ⟨_, rfl⟩
  rw [← hv'] at HO HS4 hne5 ⊢
  replace HP := Lib.hid (HP.out.far (p := ⟨t, i, none⟩) H1.out.ne_pt v')
  replace HT := Lib.hid (HT.out.set i v')
  replace HMP := Lib.hid (HMP.out.mod ((Mod.refl (fun b => b = t) W4).setCell ⟨t, i, none⟩ v' (fun _ => rfl)) (fun h => H1.out.ne_tm h.symm))
  replace HS4 := Lib.hid (HS4.out.far (p := ⟨t, i, none⟩) (fun h => (hne5 t h).2.1 rfl) v')
  replace HSL := Lib.hid (show ∀ (j : Nat) (u : Value), j ≠ i → vs1[j]? = some u → Sl 3 due 51 (W4.setCell ⟨t, i, none⟩ v') B u (P1.filter fun y => y.t % n == j) from fun j u hj hu =>
    (HSL.out j u hj hu).far (p := ⟨t, i, none⟩) (fun h => (H1.out.ne_own hu h).2.1 rfl) v')
  replace HM := Lib.hid (HM.out.setCell ⟨t, i, none⟩ v' (fun _ => H1.out.ft))
  replace HBX := Lib.hid (HBX.out.far (p := ⟨t, i, none⟩) (fun e => HN.out (e ▸ H1.out.ft)) v')
  replace HGW := Lib.hid (show w1.heap.size ≤ (W4.setCell ⟨t, i, none⟩ v').heap.size by have := HGW.out; simp [World.setCell]; omega)
  clear ct ft htl hv'
  generalize W4.setCell ⟨t, i, none⟩ v' = W5 at *
  go_wp2_with fail
  have c1 := HP.out.cell 1
  have hpl := HP.out.lt
  have cb0 := HBX.out.cell 0
  have cb1 := HBX.out.cell 1
  have cb2 := HBX.out.cell 2
  have hbl := HBX.out.lt
  simp only [List.getElem?_toArray, List.setIfInBounds_toArray, List.set_cons_zero, List.set_cons_succ, List.getElem?_cons_zero, List.getElem?_cons_succ] at c1 cb0 cb1 cb2
  refine region_sq (fun b => b = m) [(0, true), (1, true), (2, true), (3, true), (4, true), (5, true), (6, false)] (by kernel_rfl) (by kernel_rfl) (fun _ _ d _ _ h => by cases d <;> exact h) ?_
  have nmp : ¬ p = m := H1.out.ne_pm
  have nmb : ¬ bx = m := HMP.out.notAt HBX.out
  repeat (first
      | (refine sq_yes rfl (by rfl) (fun w' hM => by ((try replace hM := hM.of_drew); obtain ⟨hR1, hR2, hR3⟩ := hM.rules; clear hM; go_simp; with_reducible rfl)) ?_; simp only [Act.put, List.setIfInBounds_toArray, List.set_cons_zero, List.set_cons_succ])
      | (refine sq_no rfl (by rfl) ?_; simp only [Act.put, List.setIfInBounds_toArray, List.set_cons_zero, List.set_cons_succ]))
  obtain ⟨W6, hput, hmp6, hm6, hsz6⟩ := (show Mp (.int .i64) W5.drew m _ from HMP.out.drew).put_new (P := Try.prog) mapT keyT (isK k) (v := .agg #[.int .i64 (k), .int .i64 (a : Nat), .int .i64 (sq' : Nat)]) (by
    intro y hy he
    obtain ⟨z, hz, rfl⟩ := List.mem_map.1 hy
    exact HK.out z hz (by simpa [ent] using he))
  have HMP6 := Lib.hid hmp6
  have HM6 := Lib.hid hm6
  have HSZ6 := Lib.hid hsz6
  clear hmp6 hm6 hsz6 cb0 cb1 cb2 hbl c1 hpl
  refine sq_do_yes rfl (by rfl) (fun K_ hK_ => ?_)
  go_wp2_with fail
  refine ⟨HM6.out, ?_⟩
  refine sq_end ?_
  go_wp2_with fail
  go_ret
  have hmd : Mod (fun b => b = m) W5 W6 := HM6.out.of_drew
  have hF6 : Mod F w W6 := HM.out.trans (hmd.mono (fun b _ hb => by rw [hb]; exact H1.out.fm))
  rw [HP1.out]
  have esq := HSQ.out
  subst esq
  refine ⟨rfl, ⟨_, _, H1.out.added (x := ⟨k, a, (seq + 1)⟩) (i := i) (v' := v') HI.out rfl ?_ (by have := HT.out.mod hmd H1.out.ne_tm; rwa [List.setIfInBounds_toArray] at this) ?_ HV.out ?_ HO.out (Nat.le_trans HGW.out hmd.size) ?_, ?_⟩, hF6⟩
  · exact HP.out.mod hmd H1.out.ne_pm
  · have := HMP6.out
    rw [List.map_append]
    exact this
  · rw [hLq]
    exact HS4.out.mod hmd (fun g hg e => (hne5 g hg).2.2 e)
  · exact fun j u hj hu => (HSL.out j u hj hu).mod hmd (fun g hg e => (H1.out.ne_own hu hg).2.2 e)
  · rintro g (hg | hg)
    · exact .inl hg
    · rcases HO.out with e | ⟨g', e, hge⟩
      · exact .inl (H1.out.fo i _ g HV.out (e ▸ hg))
      · rw [e] at hg
        simp only [Option.some.injEq] at hg
        exact .inr (by have := HSZ.out; omega)
end Wi

namespace Ws
variable {w w' : World} {B : Nat} {F : Nat → Prop} {p t m n : Nat} {vs : List Value} {P : List D} {now seq : Nat}
theorem set_no (k : K) (a : Int) (h : Wh w B F p t m n vs P now seq) (ha : ¬ ((now : Int) < a ∧ a ≤ 1099511627776)) :
    Calls Try.prog 16 #[.pointer (some ⟨p, 0, none⟩), .string (k), .int .i64 a] w fun e w' => e = .returned (.int .i64 1) ∧ w' = w := by
  have c2 := h.hp.cell 2
  simp only [List.getElem?_toArray, List.getElem?_cons_zero, List.getElem?_cons_succ] at c2
  have hcase : (a ≤ (now : Int)) ∨ (decide (a ≤ (now : Int)) = false ∧ 1099511627776 < a) := by
    simp only [decide_eq_false_iff_not]; omega
  clear h ha
  rcases hcase with d1 | ⟨d1, d2⟩ <;>
  · go_enter Try.func16, Try.ntmps16
    go_wp2_with fail
    go_ret
    exact ⟨rfl, rfl⟩
/-- One is added, behind all. -/
theorem Wh.added {i : Nat} {x : D} {v v' : Value} (h : Wh w B F p t m n vs P now seq) (hi : i = x.t % n) (hxs : x.s = seq + 1) (hp : At w' p 59 (hd n t m now (seq + 1))) (ht : At w' t 62 (vs.set i v').toArray)
    (hm : Mp (.string) w' m ((P ++ [x]).map ent)) (hv : vs[i]? = some v) (hs : Sl 3 due 61 w' B v' (P.filter (fun y => y.t % n == i) ++ [x]))
    (hvv : v'.ownBlock = v.ownBlock ∨ ∃ g, v'.ownBlock = some g ∧ w.heap.size ≤ g) (hM : w.heap.size ≤ w'.heap.size) (ho : ∀ (j : Nat) (u : Value), j ≠ i → vs[j]? = some u → Sl 3 due 61 w' B u (P.filter fun y => y.t % n == j)) :
    Wh w' B (fun g => F g ∨ v'.ownBlock = some g) p t m n (vs.set i v') (P ++ [x]) now (seq + 1) := by
  have hil : i < vs.length := (List.getElem?_eq_some_iff.1 hv).1
  have look : ∀ (a : Nat) (u : Value), (vs.set i v')[a]? = some u → (a = i ∧ u = v') ∨ (a ≠ i ∧ vs[a]? = some u) := by
    intro a u hu
    rw [List.getElem?_set] at hu
    split at hu
    · rename_i hia
      simp only [Option.some.injEq] at hu
      exact .inl ⟨hia.symm, hu.symm⟩
    · rename_i hia
      exact .inr ⟨fun e => hia e.symm, hu⟩
  refine ⟨hp, ht, hm, by rw [List.length_set]; exact h.hn, h.n0, h.n1, ?_, ?_, .inl h.fp, .inl h.ft, .inl h.fm, ?_, ?_, ?_, ?_⟩
  · intro j u hu
    rw [List.filter_append]
    rcases look j u hu with ⟨rfl, rfl⟩ | ⟨hj, hu⟩
    · have e : [x].filter (fun y => y.t % n == j) = [x] := by simp [hi]
      rw [e]
      exact hs
    · have e : [x].filter (fun y => y.t % n == j) = [] := by simp [← hi, Ne.symm hj]
      rw [e, List.append_nil]
      exact ho j u hj hu
  · intro a b u u' g hu hu' hg hg'
    have key : ∀ (a : Nat) (u : Value), a ≠ i → vs[a]? = some u → u.ownBlock = some g → v'.ownBlock = some g → False := by
      intro a u ha hu hg hg'
      rcases hvv with e | ⟨g', e, hge⟩
      · exact ha (h.own a i u v g hu hv hg (e ▸ hg'))
      · have := (h.fb g (h.fo a u g hu hg)).2
        rw [e] at hg'
        simp only [Option.some.injEq] at hg'
        omega
    rcases look a u hu with ⟨ea, eu⟩ | ⟨ha, h1⟩ <;> rcases look b u' hu' with ⟨eb, eu'⟩ | ⟨hb, h2⟩
    · rw [ea, eb]
    · exact (key b u' hb h2 hg' (eu ▸ hg)).elim
    · exact (key a u ha h1 hg (eu' ▸ hg')).elim
    · exact h.own a b u u' g h1 h2 hg hg'
  · intro a u g hu hg
    rcases look a u hu with ⟨rfl, rfl⟩ | ⟨ha, hu⟩
    · exact .inr hg
    · exact .inl (h.fo a u g hu hg)
  · rintro g (hg | hg)
    · exact ⟨(h.fb g hg).1, Nat.lt_of_lt_of_le (h.fb g hg).2 hM⟩
    · exact hs.ge hg
  · rw [List.pairwise_append]
    refine ⟨h.sq, List.pairwise_singleton _ _, fun y hy z hz => ?_⟩
    simp only [List.mem_singleton] at hz
    subst hz
    have := h.sb y hy
    omega
  · intro y hy
    rcases List.mem_append.1 hy with hy | hy
    · have := h.sb y hy; omega
    · simp only [List.mem_singleton] at hy
      subst hy; omega
set_option maxHeartbeats 2000000 in
theorem set_any (k : K) (a : Nat) (h : Wh w B F p t m n vs P now seq) (ha : now < a) (ha2 : a ≤ 1099511627776) (hseq : seq ≤ 1152921504606846976) (hbig : P.length ≤ 1048576) :
    Calls Try.prog 16 #[.pointer (some ⟨p, 0, none⟩), .string (k), .int .i64 (a : Nat)] w fun e w' =>
      e = .returned (.int .i64 0) ∧ (∃ F' vs', Wh w' B F' p t m n vs' (P.filter (fun y => decide (y.k ≠ k)) ++ [⟨k, a, seq + 1⟩]) now (seq + 1) ∧ ∀ g, F' g → F g ∨ w.heap.size ≤ g) ∧ Mod F w w' := by
  have H := Lib.hid h
  have H0 := H
  have c2 := h.hp.cell 2
  have hpl := h.hp.lt
  simp only [List.getElem?_toArray, List.getElem?_cons_zero, List.getElem?_cons_succ] at c2
  have d1 : decide ((a : Int) ≤ (now : Int)) = false := by simp; omega
  have d2 : decide (1099511627776 < (a : Int)) = false := by simp; omega
  clear h
  go_enter Try.func16, Try.ntmps16
  go_wp2_with fail
  refine (drop_any k H.out (by omega)).mono ?_
  rintro e w1 ⟨rfl, ⟨vs1, h1⟩, hm⟩
  have HM := Lib.hid hm
  have HLE := Lib.hid (show (P.filter (fun y => decide (y.k ≠ k))).length ≤ P.length from List.length_filter_le _ _)
  have HK := Lib.hid (show ∀ y ∈ P.filter (fun y => decide (y.k ≠ k)), y.k ≠ k from fun y hy => by simpa using (List.mem_filter.1 hy).2)
  have HSZ := Lib.hid hm.size
  generalize hP1 : P.filter (fun y => decide (y.k ≠ k)) = P1 at *
  have HP1 := Lib.hid hP1
  clear hP1
  generalize (P.any fun y => decide (y.k = k)) = anyb at *
  have H1 := Lib.hid h1
  clear c2 hpl hm d1 d2 H
  have c3 := h1.hp.cell 3
  have c0 := h1.hp.cell 0
  have f3 := h1.hp.frozen 3
  have hpl := h1.hp.lt
  simp only [List.getElem?_toArray, List.getElem?_cons_zero, List.getElem?_cons_succ] at c0 c3
  obtain ⟨i, hi⟩ : ∃ i, i = a % n := ⟨_, rfl⟩
  have HI := Lib.hid hi
  have hin : i < n := by rw [hi]; exact Nat.mod_lt _ h1.n0
  have hn0 : ¬ n = 0 := by have := h1.n0; omega
  have hmod : Int.tmod (a : Int) (n : Int) = (i : Int) := by rw [hi]; rfl
  clear hi h1
  go_wp2_with fail
  rw [show ((seq : Int) + 1) = ((seq + 1 : Nat) : Int) from rfl]
  obtain ⟨sq', hsq⟩ : ∃ s, s = seq + 1 := ⟨_, rfl⟩
  rw [← hsq]
  obtain ⟨bx, hbx⟩ : ∃ bx, bx = w1.heap.size := ⟨_, rfl⟩
  rw [← hbx]
  have nF : ¬ F bx := fun hf => by have := (H1.out.fb bx hf).2; omega
  have hset : Mod (fun b => b = p) w1 (w1.setCell ⟨p, 3, none⟩ (.int .i64 (sq' : Nat))) := (Mod.refl _ _).setCell ⟨p, 3, none⟩ _ (fun _ => rfl)
  have HP := Lib.hid ((H1.out.hp.set 3 (.int .i64 (sq' : Nat))).alloc (.cells #[.string (k), .int .i64 (a : Nat), .int .i64 (sq' : Nat)] 61))
  have HT := Lib.hid ((H1.out.ht.mod hset (fun h => H1.out.ne_pt h.symm)).alloc (.cells #[.string (k), .int .i64 (a : Nat), .int .i64 (sq' : Nat)] 61))
  have HMP := Lib.hid ((H1.out.hm.mod hset (fun h => H1.out.ne_pm h.symm)).alloc (.cells #[.string (k), .int .i64 (a : Nat), .int .i64 (sq' : Nat)] 61))
  have HSL := Lib.hid (show ∀ (j : Nat) (u : Value), vs1[j]? = some u → Sl 3 due 61 _ B u (P1.filter fun y => y.t % n == j) from fun j u hu =>
    ((H1.out.sl j u hu).mod hset (fun g hg e => (H1.out.ne_own hu hg).1 e)).alloc (.cells #[.string (k), .int .i64 (a : Nat), .int .i64 (sq' : Nat)] 61))
  have HBX := Lib.hid (at_new (w1.setCell ⟨p, 3, none⟩ (.int .i64 (sq' : Nat))) 61 #[.string (k), .int .i64 (a : Nat), .int .i64 (sq' : Nat)] bx (by rw [hbx]; simp [World.setCell]))
  replace HM := Lib.hid ((HM.out.setCell ⟨p, 3, none⟩ (.int .i64 (sq' : Nat)) (fun _ => H1.out.fp)).alloc (.cells #[.string (k), .int .i64 (a : Nat), .int .i64 (sq' : Nat)] 61))
  have HGW := Lib.hid (show w1.heap.size ≤ ((w1.setCell ⟨p, 3, none⟩ (.int .i64 (sq' : Nat))).alloc (.cells #[.string (k), .int .i64 (a : Nat), .int .i64 (sq' : Nat)] 61)).heap.size by simp [World.setCell])
  have HN := Lib.hid nF
  have HSQ := Lib.hid hsq
  clear hset c3 c0 f3 hpl hmod hn0 hbx nF hsq
  generalize (w1.setCell ⟨p, 3, none⟩ (.int .i64 (sq' : Nat))).alloc (.cells #[.string (k), .int .i64 (a : Nat), .int .i64 (sq' : Nat)] 61) = W at *
  obtain ⟨v, hv⟩ : ∃ v, vs1[i]? = some v := ⟨_, List.getElem?_eq_getElem (by have := H1.out.hn; omega)⟩
  have HV := Lib.hid hv
  have HLE2 := Lib.hid (show (P1.filter (fun y => y.t % n == i)).length ≤ P1.length from List.length_filter_le _ _)
  have HS := Lib.hid (HSL.out i v hv)
  obtain ⟨M, hM⟩ : ∃ M : Nat → Prop, M = fun b => v.ownBlock = some b := ⟨_, rfl⟩
  have HMM := Lib.hid hM
  have np : ¬ M p := by rw [hM]; exact fun h => (H1.out.ne_own hv h).1 rfl
  have nt : ¬ M t := by rw [hM]; exact fun h => (H1.out.ne_own hv h).2.1 rfl
  have nb : ¬ M bx := by rw [hM]; exact fun h => HN.out (H1.out.fo i v bx hv h)
  obtain ⟨av, cv, rfl⟩ := HS.out.form
  have hinz : (i : Int) < (n : Int) := by omega
  have c0 := HP.out.cell 0
  have hpl := HP.out.lt
  have ct := HT.out.cell i
  have htl := HT.out.lt
  rw [List.getElem?_toArray, hv] at ct
  have cb0 := HBX.out.cell 0
  have cb1 := HBX.out.cell 1
  have cb2 := HBX.out.cell 2
  have hbl := HBX.out.lt
  simp only [List.getElem?_toArray, List.setIfInBounds_toArray, List.set_cons_zero, List.set_cons_succ, List.getElem?_cons_zero, List.getElem?_cons_succ] at c0 cb0 cb1 cb2
  clear hv hM
  refine region_sq2 M (fun b => b = t) [(0, true), (1, true), (2, true), (3, true), (4, true), (5, true), (6, true), (7, true), (8, true), (9, true), (10, true), (11, true), (12, true), (13, false), (14, false), (15, true)] [(16, false)] (by kernel_rfl) (by kernel_rfl) (fun _ _ d _ _ h => by cases d <;> exact h) ?_
  repeat (first
      | (refine sq_yes rfl (by rfl) (fun w' hM => by ((try replace hM := hM.of_drew); obtain ⟨hR1, hR2, hR3⟩ := hM.rules; clear hM; go_simp; with_reducible rfl)) ?_; simp only [Act.put, List.setIfInBounds_toArray, List.set_cons_zero, List.set_cons_succ])
      | (refine sq_no rfl (by rfl) ?_; simp only [Act.put, List.setIfInBounds_toArray, List.set_cons_zero, List.set_cons_succ]))
  replace HP := Lib.hid HP.out.drew
  replace HT := Lib.hid HT.out.drew
  replace HMP := Lib.hid HMP.out.drew
  replace HSL := Lib.hid (show ∀ (j : Nat) (u : Value), vs1[j]? = some u → Sl 3 due 61 W.drew B u (P1.filter fun y => y.t % n == j) from fun j u hu => (HSL.out j u hu).drew)
  replace HBX := Lib.hid HBX.out.drew
  replace HM := Lib.hid HM.out.drew
  replace HS := Lib.hid HS.out.drew
  replace HGW := Lib.hid (show w1.heap.size ≤ W.drew.heap.size from HGW.out)
  clear c0 hpl ct htl cb0 cb1 cb2 hbl
  generalize W.drew = W2 at *
  generalize hLq : P1.filter (fun y => y.t % n == i) = L at *
  refine sq_do_yes rfl (by rfl) (fun K_ hK_ => ?_)
  go_wp2_with fail
  refine ⟨(Mod.refl _ _).alloc _, ?_⟩
  obtain ⟨gx, hgx⟩ : ∃ gx, gx = W2.heap.size := ⟨_, rfl⟩
  rw [← hgx]
  have HX := Lib.hid (Rd.one (k := 3) (enc := due) (x := (⟨k, a, sq'⟩ : D)) (at_new W2 61 #[.string (k), .int .i64 (a : Nat), .int .i64 (sq' : Nat)] gx hgx) rfl)
  replace HP := Lib.hid (HP.out.alloc (.cells #[.string (k), .int .i64 (a : Nat), .int .i64 (sq' : Nat)] 61))
  replace HT := Lib.hid (HT.out.alloc (.cells #[.string (k), .int .i64 (a : Nat), .int .i64 (sq' : Nat)] 61))
  replace HMP := Lib.hid (HMP.out.alloc (.cells #[.string (k), .int .i64 (a : Nat), .int .i64 (sq' : Nat)] 61))
  replace HSL := Lib.hid (show ∀ (j : Nat) (u : Value), vs1[j]? = some u → Sl 3 due 61 _ B u (P1.filter fun y => y.t % n == j) from fun j u hu => (HSL.out j u hu).alloc (.cells #[.string (k), .int .i64 (a : Nat), .int .i64 (sq' : Nat)] 61))
  replace HBX := Lib.hid (HBX.out.alloc (.cells #[.string (k), .int .i64 (a : Nat), .int .i64 (sq' : Nat)] 61))
  replace HM := Lib.hid (HM.out.alloc (.cells #[.string (k), .int .i64 (a : Nat), .int .i64 (sq' : Nat)] 61))
  replace HS := Lib.hid (HS.out.alloc (.cells #[.string (k), .int .i64 (a : Nat), .int .i64 (sq' : Nat)] 61))
  replace HGW := Lib.hid (show w1.heap.size ≤ (W2.alloc (.cells #[.string (k), .int .i64 (a : Nat), .int .i64 (sq' : Nat)] 61)).heap.size by have := HGW.out; simp; omega)
  have HBB := Lib.hid (show B ≤ (W2.alloc (.cells #[.string (k), .int .i64 (a : Nat), .int .i64 (sq' : Nat)] 61)).heap.size by have := HGW.out; have := H1.out.fb p H1.out.fp; omega)
  clear hgx
  generalize W2.alloc (.cells #[.string (k), .int .i64 (a : Nat), .int .i64 (sq' : Nat)] 61) = W3 at *
  refine sq_do_yes rfl (by rfl) (fun K_ hK_ => ?_)
  refine wp_sl_app (L2 := [(⟨k, a, sq'⟩ : D)]) (n := 1) due_len due_one slT infoD rfl (by decide) HS.out HX.out (by have h1 := HLE2.out; have h2 := HLE.out; unfold maxLen; simp <;> omega) (by have h1 := HLE2.out; have h2 := HLE.out; simp <;> omega) HBB.out rfl rfl rfl ?_
  intro v' W4 hs4 hm4 ho4
  refine hK_ _ _ ⟨hm4.mono (fun b _ hb => by rw [HMM.out]; exact hb), ?_⟩
  simp only [Act.put, List.setIfInBounds_toArray, List.set_cons_zero, List.set_cons_succ]
  repeat (first
      | (refine sq_yes rfl (by rfl) (fun w' hM => by ((try replace hM := hM.of_drew); obtain ⟨hR1, hR2, hR3⟩ := hM.rules; clear hM; go_simp; with_reducible rfl)) ?_; simp only [Act.put, List.setIfInBounds_toArray, List.set_cons_zero, List.set_cons_succ])
      | (refine sq_no rfl (by rfl) ?_; simp only [Act.put, List.setIfInBounds_toArray, List.set_cons_zero, List.set_cons_succ]))
  refine sq_end ?_
  try clear hK_
  have nm : ∀ g, (Value.slice av L.length cv).ownBlock = some g → g ≠ m := fun g hg => (H1.out.ne_own HV.out hg).2.2
  have hm5 : Mod M W3 W4 := hm4.mono (fun b _ hb => by rw [HMM.out]; exact hb)
  replace HP := Lib.hid (HP.out.mod hm5 np)
  replace HT := Lib.hid (HT.out.mod hm5 nt)
  replace HMP := Lib.hid (HMP.out.mod hm4 (fun h => nm m h rfl))
  replace HSL := Lib.hid (show ∀ (j : Nat) (u : Value), j ≠ i → vs1[j]? = some u → Sl 3 due 61 W4 B u (P1.filter fun y => y.t % n == j) from fun j u hj hu => (HSL.out j u hu).mod hm4 (fun g hg e => hj (H1.out.own j i u _ g hu HV.out hg e)))
  replace HBX := Lib.hid (HBX.out.mod hm5 nb)
  replace HM := Lib.hid (HM.out.trans (hm4.mono (fun b _ hb => H1.out.fo i _ b HV.out hb)))
  have HO := Lib.hid (show v'.ownBlock = (Value.slice av L.length cv).ownBlock ∨ ∃ g, v'.ownBlock = some g ∧ w1.heap.size ≤ g from ho4.imp id fun h => ⟨_, h, HGW.out⟩)
  replace HGW := Lib.hid (Nat.le_trans HGW.out hm4.size)
  have hne5 : ∀ g, v'.ownBlock = some g → g ≠ p ∧ g ≠ t ∧ g ≠ m := fun g hg => by
    obtain ⟨cs, hc⟩ := slAt hs4 hg
    exact ⟨hc.ne HP.out (by decide), hc.ne HT.out (by decide), HMP.out.notAt hc⟩
  have HS4 := Lib.hid hs4
  have ct := HT.out.cell i
  have ft := HT.out.frozen i
  have htl := HT.out.lt
  rw [List.getElem?_toArray, HV.out] at ct
  obtain ⟨av', cv', he'⟩ := hs4.form
  clear HS HX HBB hm4 hm5 ho4 hs4 nm np nt nb HMM
  obtain ⟨nlen, hnlen⟩ : ∃ q, q = (L ++ [(⟨k, a, sq'⟩ : D)]).length := ⟨_, rfl⟩
  rw [← hnlen] at he'
  clear hnlen
  subst he'
  refine sq_do_yes rfl (by rfl) (fun K_ hK_ => ?_)
  go_wp2_with fail
  refine ⟨(Mod.refl _ _).setCell _ _ (fun _ => rfl), ?_⟩
  refine sq_end ?_
  try clear hK_
  try clear K_
  obtain ⟨v', hv'⟩ : ∃ v', v' = Value.slice av' nlen cv' := ⟨_, rfl⟩
  rw [← hv'] at HO HS4 hne5 ⊢
  replace HP := Lib.hid (HP.out.far (p := ⟨t, i, none⟩) H1.out.ne_pt v')
  replace HT := Lib.hid (HT.out.set i v')
  replace HMP := Lib.hid (HMP.out.mod ((Mod.refl (fun b => b = t) W4).setCell ⟨t, i, none⟩ v' (fun _ => rfl)) (fun h => H1.out.ne_tm h.symm))
  replace HS4 := Lib.hid (HS4.out.far (p := ⟨t, i, none⟩) (fun h => (hne5 t h).2.1 rfl) v')
  replace HSL := Lib.hid (show ∀ (j : Nat) (u : Value), j ≠ i → vs1[j]? = some u → Sl 3 due 61 (W4.setCell ⟨t, i, none⟩ v') B u (P1.filter fun y => y.t % n == j) from fun j u hj hu =>
    (HSL.out j u hj hu).far (p := ⟨t, i, none⟩) (fun h => (H1.out.ne_own hu h).2.1 rfl) v')
  replace HM := Lib.hid (HM.out.setCell ⟨t, i, none⟩ v' (fun _ => H1.out.ft))
  replace HBX := Lib.hid (HBX.out.far (p := ⟨t, i, none⟩) (fun e => HN.out (e ▸ H1.out.ft)) v')
  replace HGW := Lib.hid (show w1.heap.size ≤ (W4.setCell ⟨t, i, none⟩ v').heap.size by have := HGW.out; simp [World.setCell]; omega)
  clear ct ft htl hv'
  generalize W4.setCell ⟨t, i, none⟩ v' = W5 at *
  go_wp2_with fail
  have c1 := HP.out.cell 1
  have hpl := HP.out.lt
  have cb0 := HBX.out.cell 0
  have cb1 := HBX.out.cell 1
  have cb2 := HBX.out.cell 2
  have hbl := HBX.out.lt
  simp only [List.getElem?_toArray, List.setIfInBounds_toArray, List.set_cons_zero, List.set_cons_succ, List.getElem?_cons_zero, List.getElem?_cons_succ] at c1 cb0 cb1 cb2
  refine region_sq (fun b => b = m) [(0, true), (1, true), (2, true), (3, true), (4, true), (5, true), (6, false)] (by kernel_rfl) (by kernel_rfl) (fun _ _ d _ _ h => by cases d <;> exact h) ?_
  have nmp : ¬ p = m := H1.out.ne_pm
  have nmb : ¬ bx = m := HMP.out.notAt HBX.out
  repeat (first
      | (refine sq_yes rfl (by rfl) (fun w' hM => by ((try replace hM := hM.of_drew); obtain ⟨hR1, hR2, hR3⟩ := hM.rules; clear hM; go_simp; with_reducible rfl)) ?_; simp only [Act.put, List.setIfInBounds_toArray, List.set_cons_zero, List.set_cons_succ])
      | (refine sq_no rfl (by rfl) ?_; simp only [Act.put, List.setIfInBounds_toArray, List.set_cons_zero, List.set_cons_succ]))
  obtain ⟨W6, hput, hmp6, hm6, hsz6⟩ := (show Mp (.string) W5.drew m _ from HMP.out.drew).put_new (P := Try.prog) mapT keyT (isK k) (v := .agg #[.string (k), .int .i64 (a : Nat), .int .i64 (sq' : Nat)]) (by
    intro y hy he
    obtain ⟨z, hz, rfl⟩ := List.mem_map.1 hy
    exact HK.out z hz (by simpa [ent] using he))
  have HMP6 := Lib.hid hmp6
  have HM6 := Lib.hid hm6
  have HSZ6 := Lib.hid hsz6
  clear hmp6 hm6 hsz6 cb0 cb1 cb2 hbl c1 hpl
  refine sq_do_yes rfl (by rfl) (fun K_ hK_ => ?_)
  go_wp2_with fail
  refine ⟨HM6.out, ?_⟩
  refine sq_end ?_
  go_wp2_with fail
  go_ret
  have hmd : Mod (fun b => b = m) W5 W6 := HM6.out.of_drew
  have hF6 : Mod F w W6 := HM.out.trans (hmd.mono (fun b _ hb => by rw [hb]; exact H1.out.fm))
  rw [HP1.out]
  have esq := HSQ.out
  subst esq
  refine ⟨rfl, ⟨_, _, H1.out.added (x := ⟨k, a, (seq + 1)⟩) (i := i) (v' := v') HI.out rfl ?_ (by have := HT.out.mod hmd H1.out.ne_tm; rwa [List.setIfInBounds_toArray] at this) ?_ HV.out ?_ HO.out (Nat.le_trans HGW.out hmd.size) ?_, ?_⟩, hF6⟩
  · exact HP.out.mod hmd H1.out.ne_pm
  · have := HMP6.out
    rw [List.map_append]
    exact this
  · rw [hLq]
    exact HS4.out.mod hmd (fun g hg e => (hne5 g hg).2.2 e)
  · exact fun j u hj hu => (HSL.out j u hj hu).mod hmd (fun g hg e => (H1.out.ne_own hu hg).2.2 e)
  · rintro g (hg | hg)
    · exact .inl hg
    · rcases HO.out with e | ⟨g', e, hge⟩
      · exact .inl (H1.out.fo i _ g HV.out (e ▸ hg))
      · rw [e] at hg
        simp only [Option.some.injEq] at hg
        exact .inr (by have := HSZ.out; omega)
end Ws
end Go.Proofs.Ytaadkehopfjclaa
