/-
  The wheel's methods, one contract each, for keys that are ints and keys that are strings.
-/
import Derived.Test.YtaadkehopfjclaaWhSet
import Derived.WalkSpells
import Derived.WalkLawsBesides
import Derived.Lib.Hide
import Derived.Laws.MakeOwn
import Derived.OwnWalk
import Derived.Shelf.Abstract
namespace Go.Proofs.Ytaadkehopfjclaa
open Go.RowKit Go.MapKept Go.Shelf

namespace Wi
variable {w w' : World} {B : Nat} {F : Nat → Prop} {p t m n : Nat} {vs : List Value} {P Pm : List D} {now seq : Nat} {c : Array Value}
/-- A wheel in the midst of a Tick. -/
structure Md (w : World) (B p t m n : Nat) (c : Array Value) (vs : List Value) (P Pm : List D) : Prop where
  hp : At w p 49 c
  ht : At w t 52 vs.toArray
  hm : Mp (.int .i64) w m (Pm.map ent)
  sl : ∀ (i : Nat) (v : Value), vs[i]? = some v → Sl 3 due 51 w B v (P.filter fun x => x.t % n == i)
theorem Md.below (h : Md w B p t m n c vs P Pm) (hb : Below w.heap.size w w') : Md w' B p t m n c vs P Pm :=
  ⟨h.hp.below hb h.hp.lt, h.ht.below hb h.ht.lt, h.hm.below hb, fun i v hv => (h.sl i v hv).below hb⟩
theorem Md.alloc (h : Md w B p t m n c vs P Pm) (o : Obj) : Md (w.alloc o) B p t m n c vs P Pm := h.below ((Below.refl _ _).alloc (Nat.le_refl _) _)
theorem Md.drew (h : Md w B p t m n c vs P Pm) : Md w.drew B p t m n c vs P Pm := h.below (Below.refl _ _).drew
theorem Md.mod {M : Nat → Prop} (h : Md w B p t m n c vs P Pm) (hm : Mod M w w') (h1 : ¬ M p) (h2 : ¬ M t) (h3 : ¬ M m) (h4 : ∀ (i : Nat) (v : Value) (g : Nat), vs[i]? = some v → v.ownBlock = some g → ¬ M g) : Md w' B p t m n c vs P Pm :=
  ⟨h.hp.mod hm h1, h.ht.mod hm h2, h.hm.mod hm h3, fun i v hv => (h.sl i v hv).mod hm fun g hg => h4 i v g hv hg⟩
abbrev keyL (k : K) : List Value := [.int .i64 (k)]
theorem keyL_len (k : K) : (keyL k).length = 1 := rfl
theorem keyL_one (k : K) : ∀ u ∈ keyL k, u.oneCell' = true := by
  intro u hu
  simp only [keyL, List.mem_singleton] at hu
  subst hu; rfl
theorem slK : Try.prog.underlying 22 = some (.slice 3) := by kernel_rfl
theorem infoK : (Try.prog.info? 3).map (fun i => (i.zero, i.size, i.bytes)) = some (some (.int .i64 0), 1, 8) := by kernel_rfl
/-- Who is left behind the first j of a slot. -/
def rest (P : List D) (L : List D) (T : Nat) (j : Nat) : List D := P.filter fun y => !((L.take j).any fun z => decide (z.k = y.k) && decide (z.t = T))
theorem rest_skip {P L : List D} {T j : Nat} {y : D} (hy : L[j]? = some y) (ht : y.t ≠ T) : rest P L T (j + 1) = rest P L T j := by
  unfold rest
  apply List.filter_congr
  intro z _
  rw [List.take_add_one, hy, List.any_append]
  simp [ht]
theorem rest_due {P L : List D} {T j : Nat} {y : D} (hy : L[j]? = some y) (ht : y.t = T) : rest P L T (j + 1) = (rest P L T j).filter fun z => decide (z.k ≠ y.k) := by
  unfold rest
  rw [List.filter_filter]
  apply List.filter_congr
  intro z _
  rw [List.take_add_one, hy, List.any_append, Bool.not_or, Bool.and_comm]
  simp [ht, eq_comm]
theorem Wh.rest_all (h : Wh w B F p t m n vs P now seq) (T : Nat) : rest P (P.filter fun y => y.t % n == T % n) T (P.filter fun y => y.t % n == T % n).length = P.filter fun y => decide (y.t ≠ T) := by
  unfold rest
  rw [List.take_length]
  apply List.filter_congr
  intro z hz
  rw [Bool.eq_iff_iff, Bool.not_eq_true', decide_eq_true_iff, Bool.eq_false_iff]
  refine not_congr ?_
  rw [List.any_eq_true]
  constructor
  · rintro ⟨x, hx, hq⟩
    simp only [Bool.and_eq_true, decide_eq_true_eq] at hq
    rw [← h.key_inj (List.mem_filter.1 hx).1 hz hq.1]
    exact hq.2
  · intro e
    exact ⟨z, List.mem_filter.2 ⟨hz, by rw [e]; simp⟩, by simp [e]⟩
theorem Wh.rest_mem (h : Wh w B F p t m n vs P now seq) {L : List D} {i T j : Nat} {y : D} (hL : P.filter (fun y => y.t % n == i) = L) (hy : L[j]? = some y) : y ∈ rest P L T j := by
  have hyP : y ∈ P := by have := List.mem_of_getElem? hy; rw [← hL] at this; exact (List.mem_filter.1 this).1
  unfold rest
  refine List.mem_filter.2 ⟨hyP, ?_⟩
  rw [Bool.not_eq_true', Bool.eq_false_iff]
  intro ha
  obtain ⟨z, hz, hq⟩ := List.any_eq_true.1 ha
  simp only [Bool.and_eq_true, decide_eq_true_eq] at hq
  obtain ⟨q, hqj⟩ := List.mem_iff_getElem?.1 hz
  rw [List.getElem?_take] at hqj
  split at hqj
  · rename_i hlt
    have hk : L.Pairwise fun x y => x.k ≠ y.k := by rw [← hL]; exact h.keys.filter _
    have := pair_inj hk hqj hy (fun h => h hq.1) (fun h => h hq.1.symm)
    omega
  · cases hqj
theorem Wh.ticked {i T : Nat} {v' : Value} (h : Wh w B F p t m n vs P now seq) (hi : i = T % n)
    (hp : At w' p 49 (hd n t m (now + 1) seq)) (ht : At w' t 52 (vs.set i v').toArray)
    (hm : Mp (.int .i64) w' m ((P.filter fun y => decide (y.t ≠ T)).map ent)) {v : Value} (hv : vs[i]? = some v) (hs : Sl 3 due 51 w' w.heap.size v' ((P.filter fun y => y.t % n == i).filter fun y => decide (y.t ≠ T)))
    (hM : w.heap.size ≤ w'.heap.size) (ho : ∀ (j : Nat) (u : Value), vs[j]? = some u → Sl 3 due 51 w' B u (P.filter fun y => y.t % n == j)) :
    Wh w' B (fun g => F g ∨ v'.ownBlock = some g) p t m n (vs.set i v') (P.filter fun y => decide (y.t ≠ T)) (now + 1) seq := by
  have hil : i < vs.length := (List.getElem?_eq_some_iff.1 hv).1
  have hBw : B ≤ w.heap.size := by have := h.fb p h.fp; omega
  have look : ∀ (a : Nat) (u : Value), (vs.set i v')[a]? = some u → (a = i ∧ u = v') ∨ (a ≠ i ∧ vs[a]? = some u) := by
    intro a u hu
    rw [List.getElem?_set] at hu
    split at hu
    · rename_i hia
      simp only [Option.some.injEq] at hu
      exact .inl ⟨hia.symm, hu.symm⟩
    · rename_i hia
      exact .inr ⟨fun e => hia e.symm, hu⟩
  refine ⟨hp, ht, hm, by rw [List.length_set]; exact h.hn, h.n0, h.n1, ?_, ?_, .inl h.fp, .inl h.ft, .inl h.fm, ?_, ?_, h.sq.filter _, fun x hx => h.sb x (List.mem_filter.1 hx).1⟩
  · intro j u hu
    rw [List.filter_filter]
    rcases look j u hu with ⟨rfl, rfl⟩ | ⟨hj, hu⟩
    · rw [List.filter_filter] at hs
      have e : P.filter (fun a => a.t % n == j && decide (a.t ≠ T)) = P.filter (fun a => decide (a.t ≠ T) && a.t % n == j) :=
        List.filter_congr fun y _ => Bool.and_comm _ _
      rw [e]
      exact hs.base hBw
    · have e : P.filter (fun a => a.t % n == j && decide (a.t ≠ T)) = P.filter (fun a => a.t % n == j) :=
        List.filter_congr fun y _ => by
          by_cases hk : y.t = T
          · have : (y.t % n == j) = false := by rw [beq_eq_false_iff_ne, hk, ← hi]; exact Ne.symm hj
            rw [this]; rfl
          · simp [hk]
      rw [e]
      exact ho j u hu
  · intro a b u u' g hu hu' hg hg'
    have key : ∀ (a : Nat) (u : Value), vs[a]? = some u → u.ownBlock = some g → v'.ownBlock = some g → False := by
      intro a u hu hg hg'
      have h1 := (h.fb g (h.fo a u g hu hg)).2
      have h2 := (hs.ge hg').1
      omega
    rcases look a u hu with ⟨ea, eu⟩ | ⟨ha, h1⟩ <;> rcases look b u' hu' with ⟨eb, eu'⟩ | ⟨hb, h2⟩
    · rw [ea, eb]
    · exact (key b u' h2 hg' (eu ▸ hg)).elim
    · exact (key a u h1 hg (eu' ▸ hg')).elim
    · exact h.own a b u u' g h1 h2 hg hg'
  · intro a u g hu hg
    rcases look a u hu with ⟨rfl, rfl⟩ | ⟨ha, hu⟩
    · exact .inr hg
    · exact .inl (h.fo a u g hu hg)
  · rintro g (hg | hg)
    · exact ⟨(h.fb g hg).1, Nat.lt_of_lt_of_le (h.fb g hg).2 hM⟩
    · exact ⟨Nat.le_trans hBw (hs.ge hg).1, (hs.ge hg).2⟩
theorem keyAt {v : Value} {L : List K} {g : Nat} (h : Sl 1 keyL 3 w B v L) (hv : v.ownBlock = some g) : ∃ cs, At w g 3 cs := by
  rcases h.cases with ⟨rfl, _⟩ | ⟨g', c', cur, rfl, h2, h3, _⟩
  · cases hv
  · simp only [Value.ownBlock, Option.some.injEq] at hv
    subst hv
    exact ⟨_, h3⟩
/-- What a Tick leaves. -/
def Ticked (w w' : World) (B : Nat) (F : Nat → Prop) (p t m n : Nat) (P : List D) (now seq : Nat) (out : Value) : Prop :=
  ∃ (F' : Nat → Prop) (vs' : List Value), Wh w' B F' p t m n vs' (P.filter fun y => decide (y.t ≠ now + 1)) (now + 1) seq ∧ Sl 1 keyL 3 w' w.heap.size out ((P.filter fun y => decide (y.t = now + 1)).map (·.k)) ∧
    (∀ g, out.ownBlock = some g → ¬ F' g) ∧ (∀ g, F' g → F g ∨ w.heap.size ≤ g) ∧ Mod F w w'
set_option maxHeartbeats 2000000 in
theorem tick_any (h : Wh w B F p t m n vs P now seq) (hnow : now ≤ 1152921504606846976) (hbig : P.length ≤ 1048576) :
    Calls Try.prog 10 #[.pointer (some ⟨p, 0, none⟩)] w fun e w' =>
      ∃ out, e = .returned out ∧ Ticked w w' B F p t m n P now seq out := by
  have H0 := Lib.hid h
  have c2 := h.hp.cell 2
  have c0 := h.hp.cell 0
  have f2 := h.hp.frozen 2
  have hpl := h.hp.lt
  simp only [List.getElem?_toArray, List.getElem?_cons_zero, List.getElem?_cons_succ] at c2 c0
  have hset : Mod (fun b => b = p) w (w.setCell ⟨p, 2, none⟩ (.int .i64 (now + 1 : Nat))) := (Mod.refl _ _).setCell ⟨p, 2, none⟩ _ (fun _ => rfl)
  have HMD := Lib.hid (show Md (w.setCell ⟨p, 2, none⟩ (.int .i64 (now + 1 : Nat))) B p t m n _ vs P P from
    ⟨h.hp.set 2 _, h.ht.mod hset (fun e => h.ne_pt e.symm), h.hm.mod hset (fun e => h.ne_pm e.symm), fun i v hv => (h.sl i v hv).mod hset fun g hg e => (h.ne_own hv hg).1 e⟩)
  have HM := Lib.hid ((Mod.refl F w).setCell ⟨p, 2, none⟩ (.int .i64 (now + 1 : Nat)) (fun _ => h.fp))
  have HZ := Lib.hid (show w.heap.size ≤ (w.setCell ⟨p, 2, none⟩ (.int .i64 (now + 1 : Nat))).heap.size by simp [World.setCell])
  clear h hset
  go_enter Try.func10, Try.ntmps10
  go_wp2_with fail
  rw [show ((now : Int) + 1) = ((now + 1 : Nat) : Int) from rfl]
  obtain ⟨T, hT⟩ : ∃ T, T = now + 1 := ⟨_, rfl⟩
  rw [← hT] at HMD HM HZ ⊢
  have HT := Lib.hid hT
  clear hT c2 c0 f2 hpl
  generalize w.setCell ⟨p, 2, none⟩ (.int .i64 (T : Nat)) = W at *
  obtain ⟨i, hi⟩ : ∃ i, i = T % n := ⟨_, rfl⟩
  have HI := Lib.hid hi
  have hin : i < n := by rw [hi]; exact Nat.mod_lt _ H0.out.n0
  have hn0 : ¬ n = 0 := by have := H0.out.n0; omega
  have hmod : Int.tmod (T : Int) (n : Int) = (i : Int) := by rw [hi]; rfl
  clear hi
  have c2 := HMD.out.hp.cell 2
  have c0 := HMD.out.hp.cell 0
  have hpl := HMD.out.hp.lt
  simp only [List.getElem?_toArray, List.setIfInBounds_toArray, List.set_cons_zero, List.set_cons_succ, List.getElem?_cons_zero, List.getElem?_cons_succ] at c2 c0
  refine region_sq (fun _ => False) [(0, true), (1, true), (2, true), (3, true), (4, true), (5, true), (6, true), (7, true), (8, true), (9, true), (10, true)] (by kernel_rfl) (by kernel_rfl) (fun _ _ d _ _ h => by cases d <;> exact h) ?_
  repeat (first
      | (refine sq_yes rfl (by rfl) (fun w' hM => by ((try replace hM := hM.of_drew); obtain ⟨hR1, hR2, hR3⟩ := hM.rules; clear hM; go_simp; with_reducible rfl)) ?_; simp only [Act.put, List.setIfInBounds_toArray, List.set_cons_zero, List.set_cons_succ])
      | (refine sq_no rfl (by rfl) ?_; simp only [Act.put, List.setIfInBounds_toArray, List.set_cons_zero, List.set_cons_succ]))
  refine sq_end ?_
  replace HMD := Lib.hid HMD.out.drew
  replace HM := Lib.hid HM.out.drew
  replace HZ := Lib.hid (show w.heap.size ≤ W.drew.heap.size from HZ.out)
  clear c2 c0 hpl hmod hn0
  generalize W.drew = W2 at *
  obtain ⟨v, hv⟩ : ∃ v, vs[i]? = some v := ⟨_, List.getElem?_eq_getElem (by have := H0.out.hn; omega)⟩
  have HV := Lib.hid hv
  have HLE := Lib.hid (show (P.filter (fun y => y.t % n == i)).length ≤ P.length from List.length_filter_le _ _)
  have HS := HMD.out.sl i v hv
  generalize hLq : P.filter (fun y => y.t % n == i) = L at *
  have HL := Lib.hid hLq
  obtain ⟨av, cv, rfl⟩ := HS.form
  have hLe : L.length ≤ 1048576 := Nat.le_trans HLE.out hbig
  have hinz : (i : Int) < (n : Int) := by omega
  have c0 := HMD.out.hp.cell 0
  have ct := HMD.out.ht.cell i
  have hpl := HMD.out.hp.lt
  rw [List.getElem?_toArray, hv] at ct
  simp only [List.getElem?_toArray, List.setIfInBounds_toArray, List.set_cons_zero, List.set_cons_succ, List.getElem?_cons_zero] at c0
  obtain ⟨W0, hW0⟩ : ∃ W0, W0 = w.heap.size := ⟨_, rfl⟩
  have HW0 := Lib.hid hW0
  rw [← hW0] at HZ
  have HLow := Lib.hid (show ∀ g, F g → g < W0 from fun g hg => by rw [hW0]; exact (H0.out.fb g hg).2)
  obtain ⟨cH, hcH⟩ : ∃ c, c = (hd n t m now seq).setIfInBounds 2 (.int .i64 (T : Nat)) := ⟨_, rfl⟩
  have HCH := Lib.hid hcH
  rw [← hcH] at HMD
  clear hW0 hcH hv hLq HS
  go_wp2_with fail
  clear ct c0 hpl
  go_loopw [2, 4, 6, 34] (fun out left _ s34 wr => ∃ j : Nat, s34 = .int .i64 (j : Nat) ∧ j ≤ L.length ∧ Sl 3 due 51 wr W0 left ((L.take j).filter fun y => decide (y.t ≠ T)) ∧ Sl 1 keyL 3 wr W0 out (((L.take j).filter fun y => decide (y.t = T)).map (·.k)) ∧ Md wr B p t m n cH vs P (rest P L T j) ∧ Mod F w wr ∧ W0 ≤ wr.heap.size) (fun _ _ _ s34 _ => L.length - (intOf s34).toNat)
  case atStart =>
    refine ⟨0, rfl, Nat.zero_le _, Sl.nil _ _ _ _ _, Sl.nil _ _ _ _ _, ?_, HM.out, HZ.out⟩
    have e : rest P L T 0 = P := by unfold rest; rw [List.take_zero]; simp
    rw [e]; exact HMD.out
  case round =>
    clear HMD HM HZ
    obtain ⟨j, rfl, hj, hsl, hso, hmd, hm, hz⟩ := hrel
    have HLF := Lib.hid hsl
    have HOUT := Lib.hid hso
    have HMD := Lib.hid hmd
    have HM := Lib.hid hm
    have HZ := Lib.hid hz
    by_cases hlt : j < L.length
    · have hltz : (j : Int) < (L.length : Int) := by omega
      obtain ⟨y, hy⟩ : ∃ y, L[j]? = some y := ⟨_, List.getElem?_eq_getElem (by omega)⟩
      have hsv := hmd.sl i _ HV.out
      rw [HL.out] at hsv
      obtain ⟨g, rfl, -, hnc, hBg, hgl, hc⟩ := hsv.cells due_len hy
      have c0 := hc 0 (by omega)
      have c1 := hc 1 (by omega)
      have c2 := hc 2 (by omega)
      simp only [due, List.getElem?_cons_zero, List.getElem?_cons_succ, Nat.add_zero] at c0 c1 c2
      have HY := Lib.hid hy
      clear hc hsv hsl hso hmd hm hz hy
      go_wp2_with fail
      obtain ⟨bx, hbx⟩ : ∃ bx, bx = wr.heap.size := ⟨_, rfl⟩
      rw [← hbx]
      have HBX := Lib.hid (at_new wr 51 #[.int .i64 (y.k), .int .i64 (y.t : Nat), .int .i64 (y.s : Nat)] bx hbx)
      have hb1 : Below wr.heap.size wr (wr.alloc (.cells #[.int .i64 (y.k), .int .i64 (y.t : Nat), .int .i64 (y.s : Nat)] 51)) := (Below.refl _ _).alloc (Nat.le_refl _) _
      replace HLF := Lib.hid (HLF.out.below hb1)
      replace HOUT := Lib.hid (HOUT.out.below hb1)
      replace HMD := Lib.hid (HMD.out.below hb1)
      replace HM := Lib.hid (HM.out.trans (Mod.of_below hb1))
      replace HZ := Lib.hid (Nat.le_trans HZ.out hb1.size)
      clear hbx hb1 c0 c1 c2 hgl
      generalize wr.alloc (.cells #[.int .i64 (y.k), .int .i64 (y.t : Nat), .int .i64 (y.s : Nat)] 51) = W3 at *
      have cb1 := HBX.out.cell 1
      have hbl := HBX.out.lt
      have c2 := HMD.out.hp.cell 2
      have hpl := HMD.out.hp.lt
      rw [HCH.out] at c2
      simp only [List.getElem?_toArray, List.setIfInBounds_toArray, List.set_cons_zero, List.set_cons_succ, List.getElem?_cons_zero, List.getElem?_cons_succ] at c2 cb1
      refine region_sq (fun _ => False) [(0, true), (1, true), (2, true), (3, true), (4, true), (5, true), (6, true)] (by kernel_rfl) (by kernel_rfl) (fun _ _ d _ _ h => by cases d <;> exact h) ?_
      repeat (first
          | (refine sq_yes rfl (by rfl) (fun w' hM => by ((try replace hM := hM.of_drew); obtain ⟨hR1, hR2, hR3⟩ := hM.rules; clear hM; go_simp; with_reducible rfl)) ?_; simp only [Act.put, List.setIfInBounds_toArray, List.set_cons_zero, List.set_cons_succ])
          | (refine sq_no rfl (by rfl) ?_; simp only [Act.put, List.setIfInBounds_toArray, List.set_cons_zero, List.set_cons_succ]))
      refine sq_end ?_
      replace HBX := Lib.hid HBX.out.drew
      replace HLF := Lib.hid HLF.out.drew
      replace HOUT := Lib.hid HOUT.out.drew
      replace HMD := Lib.hid HMD.out.drew
      replace HM := Lib.hid HM.out.drew
      replace HZ := Lib.hid (show W0 ≤ W3.drew.heap.size from HZ.out)
      clear cb1 hbl c2 hpl
      generalize W3.drew = W4 at *
      have cb0 := HBX.out.cell 0
      have cb1 := HBX.out.cell 1
      have cb2 := HBX.out.cell 2
      have hbl := HBX.out.lt
      simp only [List.getElem?_toArray, List.getElem?_cons_zero, List.getElem?_cons_succ] at cb0 cb1 cb2
      have HLF1 := Lib.hid (show ((L.take j).filter fun y => decide (y.t ≠ T)).length ≤ 1048576 from Nat.le_trans (List.length_filter_le _ _) (by rw [List.length_take]; omega))
      have HOT1 := Lib.hid (show (((L.take j).filter fun y => decide (y.t = T)).map (·.k)).length ≤ 1048576 by rw [List.length_map]; exact Nat.le_trans (List.length_filter_le _ _) (by rw [List.length_take]; omega))
      by_cases ht : y.t = T
      · have hq : ((y.t : Int) != (T : Int)) = false := by rw [ht]; exact bne_self_eq_false _
        rw [hq]
        have HTT := Lib.hid ht
        clear hq ht
        go_wp2_with (at_builtin; refine wpList_sl_app1 (y := y.k) rfl keyL_len keyL_one slK infoK rfl (by decide) HOUT.out rfl (by have h1 := HOT1.out; unfold maxLen; omega) (by have h1 := HOT1.out; omega) HZ.out rfl rfl rfl rfl ?_; intro v' W5 hs5 hm5 ho5; have HS5 := Lib.hid hs5; have HM5 := Lib.hid hm5; have HO5 := Lib.hid ho5; clear hs5 hm5 ho5)
        have hge := fun g (hg : u2.ownBlock = some g) => (HOUT.out.ge hg).1
        have nF := fun g (hf : F g) (hg : u2.ownBlock = some g) => (by have h1 := hge g hg; have h2 := HLow.out g hf; omega : False)
        replace HLF := Lib.hid (HLF.out.mod HM5.out (fun g hg ho => by
          obtain ⟨_, h1⟩ := slAt HLF.out hg
          obtain ⟨_, h2⟩ := keyAt HOUT.out ho
          exact h1.ne h2 (by decide) rfl))
        replace HBX := Lib.hid (HBX.out.mod HM5.out (fun ho => by
          obtain ⟨_, h2⟩ := keyAt HOUT.out ho
          exact HBX.out.ne h2 (by decide) rfl))
        replace HMD := Lib.hid (HMD.out.mod HM5.out (nF p H0.out.fp) (nF t H0.out.ft) (nF m H0.out.fm) (fun i' v'' g hv hg => nF g (H0.out.fo i' v'' g hv hg)))
        replace HM := Lib.hid (Mod.step HM.out HM5.out (fun g hg ho => by have h1 := hge g ho; have h2 := HW0.out; omega))
        replace HZ := Lib.hid (Nat.le_trans HZ.out HM5.out.size)
        clear hge nF HM5 HO5 HOUT HLF1 HOT1 cb0 cb1 cb2 hbl
        have cb0 := HBX.out.cell 0
        have hbl := HBX.out.lt
        have c1 := HMD.out.hp.cell 1
        have hpl := HMD.out.hp.lt
        rw [HCH.out] at c1
        simp only [List.getElem?_toArray, List.setIfInBounds_toArray, List.set_cons_zero, List.set_cons_succ, List.getElem?_cons_zero, List.getElem?_cons_succ] at c1 cb0
        have nmp : ¬ p = m := H0.out.ne_pm
        have nmb : ¬ bx = m := HMD.out.hm.notAt HBX.out
        refine region_sq (fun b => b = m) [(0, true), (1, true), (2, true), (3, true), (4, true), (5, true), (6, false)] (by kernel_rfl) (by kernel_rfl) (fun _ _ d _ _ h => by cases d <;> exact h) ?_
        repeat (first
            | (refine sq_yes rfl (by rfl) (fun w' hM => by ((try replace hM := hM.of_drew); obtain ⟨hR1, hR2, hR3⟩ := hM.rules; clear hM; go_simp; with_reducible rfl)) ?_; simp only [Act.put, List.setIfInBounds_toArray, List.set_cons_zero, List.set_cons_succ])
            | (refine sq_no rfl (by rfl) ?_; simp only [Act.put, List.setIfInBounds_toArray, List.set_cons_zero, List.set_cons_succ]))
        obtain ⟨jx, hjx⟩ := List.mem_iff_getElem?.1 (H0.out.rest_mem (T := T) HL.out HY.out)
        obtain ⟨W6, hdel, hmp6, hm6, -⟩ := (show Mp (.int .i64) W5.drew m _ from HMD.out.hm.drew).del_yes (P := Try.prog) mapT keyT (isK y.k) (j := jx) (by rw [List.getElem?_map, hjx]; rfl) 0
        have hmb : (rest P L T j).Pairwise fun x y => x.k ≠ y.k := H0.out.keys.filter _
        rw [map_eraseIdx, erase_filter (fun z => decide (z.k ≠ y.k)) (rest P L T j) jx y hjx (by simp) (fun i' z hi' hz => by
          simp only [decide_eq_true_eq]
          exact fun he => hi' (pair_inj hmb hz hjx (fun h => h he) (fun h => h he.symm))), ← rest_due HY.out HTT.out] at hmp6
        have HMP6 := Lib.hid hmp6
        have HM6 := Lib.hid hm6
        clear hjx hmp6 hm6 hmb c1 cb0 hbl hpl
        refine sq_do_yes rfl (by rfl) (fun K_ hK_ => ?_)
        go_wp2_with fail
        refine ⟨HM6.out, ?_⟩
        refine sq_end ?_
        have hmd : Mod (fun b => b = m) W5 W6 := HM6.out.of_drew
        have HM7 := Lib.hid hmd
        clear hmd
        go_wp2_with fail
        go_roundw
        case rel =>
          have hmd := HM7.out
          refine ⟨j + 1, by simp, by omega, ?_, ?_, ⟨HMD.out.hp.mod hmd H0.out.ne_pm, HMD.out.ht.mod hmd H0.out.ne_tm, HMP6.out, fun i' u hu => (HMD.out.sl i' u hu).mod hmd (fun g hg e => (H0.out.ne_own hu hg).2.2 e)⟩, HM.out.trans (hmd.mono (fun b _ hb => by rw [hb]; exact H0.out.fm)), Nat.le_trans HZ.out hmd.size⟩
          · rw [List.take_add_one, HY.out, List.filter_append]
            have e : ([y].filter fun y => decide (y.t ≠ T)) = [] := by simp [HTT.out]
            rw [Option.toList_some, e, List.append_nil]
            exact HLF.out.mod hmd (fun g hg e => by
              obtain ⟨_, h1⟩ := slAt HLF.out hg
              exact HMD.out.hm.notAt h1 e)
          · rw [List.take_add_one, HY.out, List.filter_append, List.map_append]
            have e : ([y].filter fun y => decide (y.t = T)) = [y] := by simp [HTT.out]
            rw [Option.toList_some, e]
            exact HS5.out.mod hmd (fun g hg e => by
              obtain ⟨_, h1⟩ := keyAt HS5.out hg
              exact HMD.out.hm.notAt h1 e)
        case measure => simp [intOf] <;> omega
      · have hq : ((y.t : Int) != (T : Int)) = true := by rw [bne_iff_ne]; omega
        rw [hq]
        have HTT := Lib.hid ht
        clear hq ht
        go_wp2_with (at_builtin; refine wpList_sl_app1 (y := y) rfl due_len due_one slT infoD rfl (by decide) HLF.out rfl (by have h1 := HLF1.out; unfold maxLen; omega) (by have h1 := HLF1.out; omega) HZ.out rfl rfl rfl rfl ?_; intro v' W5 hs5 hm5 ho5; have HS5 := Lib.hid hs5; have HM5 := Lib.hid hm5; have HO5 := Lib.hid ho5; clear hs5 hm5 ho5)
        have hge := fun g (hg : u4.ownBlock = some g) => (HLF.out.ge hg).1
        have nF := fun g (hf : F g) (hg : u4.ownBlock = some g) => (by have h1 := hge g hg; have h2 := HLow.out g hf; omega : False)
        go_roundw
        case rel =>
          refine ⟨j + 1, by simp, by omega, ?_, ?_, ?_, Mod.step HM.out HM5.out (fun g hg ho => by have h1 := hge g ho; have h2 := HW0.out; omega), Nat.le_trans HZ.out HM5.out.size⟩
          · rw [List.take_add_one, HY.out, List.filter_append]
            have e : ([y].filter fun y => decide (y.t ≠ T)) = [y] := by simp [HTT.out]
            rw [Option.toList_some, e]
            exact HS5.out
          · rw [List.take_add_one, HY.out, List.filter_append]
            have e : ([y].filter fun y => decide (y.t = T)) = [] := by simp [HTT.out]
            rw [Option.toList_some, e, List.append_nil]
            exact HOUT.out.mod HM5.out (fun g hg ho => by
              obtain ⟨_, h1⟩ := slAt HLF.out ho
              obtain ⟨_, h2⟩ := keyAt HOUT.out hg
              exact h1.ne h2 (by decide) rfl)
          · rw [rest_skip HY.out HTT.out]
            exact HMD.out.mod HM5.out (nF p H0.out.fp) (nF t H0.out.ft) (nF m H0.out.fm) (fun i' v'' g hv hg => nF g (H0.out.fo i' v'' g hv hg))
        case measure => simp [intOf] <;> omega
    · have hltz : ¬ (j : Int) < (L.length : Int) := by omega
      have hjl : j = L.length := by omega
      subst hjl
      rw [List.take_length] at hsl hso
      have hre : rest P L T L.length = P.filter fun y => decide (y.t ≠ T) := by
        have := H0.out.rest_all T
        rw [← HI.out, HL.out] at this
        exact this
      rw [hre] at hmd
      have hdue : (L.filter fun y => decide (y.t = T)) = P.filter fun y => decide (y.t = T) := by
        rw [← HL.out, List.filter_filter]
        apply List.filter_congr
        intro z _
        by_cases hz : z.t = T
        · simp [hz, HI.out]
        · simp [hz]
      rw [hdue] at hso
      clear HLF HOUT HMD HM HZ hre hdue
      have ct := hmd.ht.cell i
      have ft := hmd.ht.frozen i
      have htl := hmd.ht.lt
      have c0 := hmd.hp.cell 0
      have hpl := hmd.hp.lt
      rw [List.getElem?_toArray, HV.out] at ct
      rw [HCH.out] at c0
      simp only [List.getElem?_toArray, List.setIfInBounds_toArray, List.set_cons_zero, List.set_cons_succ, List.getElem?_cons_zero] at c0
      have HMD := Lib.hid hmd
      have HM := Lib.hid hm
      have HZ := Lib.hid hz
      have HOUT := Lib.hid hso
      have HLF := Lib.hid hsl
      obtain ⟨al, cl, hal⟩ := hsl.form
      obtain ⟨nl, hnl⟩ : ∃ q, q = (L.filter fun y => decide (y.t ≠ T)).length := ⟨_, rfl⟩
      rw [← hnl] at hal
      clear hsl hso hmd hm hz hnl
      subst hal
      go_wp2_with fail
      go_ret
      refine ⟨u2, rfl, ?_⟩
      obtain ⟨v', hv'⟩ : ∃ v', v' = Value.slice al nl cl := ⟨_, rfl⟩
      rw [← hv'] at HLF ⊢
      have hne : ∀ g, v'.ownBlock = some g → g ≠ p ∧ g ≠ t ∧ g ≠ m := fun g hg => by
        have h1 := (HLF.out.ge hg).1
        refine ⟨fun e => ?_, fun e => ?_, fun e => ?_⟩
        · have h2 := HLow.out p H0.out.fp; omega
        · have h2 := HLow.out t H0.out.ft; omega
        · have h2 := HLow.out m H0.out.fm; omega
      have hst : Mod (fun b => b = t) wr (wr.setCell ⟨t, i, none⟩ v') := (Mod.refl _ _).setCell _ _ (fun _ => rfl)
      have eT := HT.out
      have eC := HCH.out
      have eW := HW0.out
      subst eT
      subst eC
      subst eW
      refine ⟨_, _, H0.out.ticked (v' := v') HI.out (HMD.out.hp.mod hst H0.out.ne_pt) ?_ (HMD.out.hm.mod hst (fun e => H0.out.ne_tm e.symm)) HV.out ?_ (Nat.le_trans HZ.out hst.size) ?_, HOUT.out.mod hst ?_, ?_, ?_, HM.out.trans (hst.mono (fun b _ hb => by rw [hb]; exact H0.out.ft))⟩
      · have := HMD.out.ht.set i v'
        rwa [List.setIfInBounds_toArray] at this
      · rw [HL.out]
        exact HLF.out.mod hst (fun g hg e => (hne g hg).2.1 e)
      · exact fun j u hu => (HMD.out.sl j u hu).mod hst (fun g hg e => (H0.out.ne_own hu hg).2.1 e)
      · intro g hg e
        have h1 := (HOUT.out.ge hg).1
        have h2 := HLow.out t H0.out.ft
        omega
      · rintro g hg (hf | hl)
        · have h1 := (HOUT.out.ge hg).1
          have h2 := HLow.out g hf
          omega
        · obtain ⟨_, h1⟩ := slAt HLF.out hl
          obtain ⟨_, h2⟩ := keyAt HOUT.out hg
          exact h1.ne h2 (by decide) rfl
      · rintro g (hf | hl)
        · exact .inl hf
        · exact .inr (HLF.out.ge hl).1
end Wi

namespace Ws
variable {w w' : World} {B : Nat} {F : Nat → Prop} {p t m n : Nat} {vs : List Value} {P Pm : List D} {now seq : Nat} {c : Array Value}
/-- A wheel in the midst of a Tick. -/
structure Md (w : World) (B p t m n : Nat) (c : Array Value) (vs : List Value) (P Pm : List D) : Prop where
  hp : At w p 59 c
  ht : At w t 62 vs.toArray
  hm : Mp (.string) w m (Pm.map ent)
  sl : ∀ (i : Nat) (v : Value), vs[i]? = some v → Sl 3 due 61 w B v (P.filter fun x => x.t % n == i)
theorem Md.below (h : Md w B p t m n c vs P Pm) (hb : Below w.heap.size w w') : Md w' B p t m n c vs P Pm :=
  ⟨h.hp.below hb h.hp.lt, h.ht.below hb h.ht.lt, h.hm.below hb, fun i v hv => (h.sl i v hv).below hb⟩
theorem Md.alloc (h : Md w B p t m n c vs P Pm) (o : Obj) : Md (w.alloc o) B p t m n c vs P Pm := h.below ((Below.refl _ _).alloc (Nat.le_refl _) _)
theorem Md.drew (h : Md w B p t m n c vs P Pm) : Md w.drew B p t m n c vs P Pm := h.below (Below.refl _ _).drew
theorem Md.mod {M : Nat → Prop} (h : Md w B p t m n c vs P Pm) (hm : Mod M w w') (h1 : ¬ M p) (h2 : ¬ M t) (h3 : ¬ M m) (h4 : ∀ (i : Nat) (v : Value) (g : Nat), vs[i]? = some v → v.ownBlock = some g → ¬ M g) : Md w' B p t m n c vs P Pm :=
  ⟨h.hp.mod hm h1, h.ht.mod hm h2, h.hm.mod hm h3, fun i v hv => (h.sl i v hv).mod hm fun g hg => h4 i v g hv hg⟩
abbrev keyL (k : K) : List Value := [.string (k)]
theorem keyL_len (k : K) : (keyL k).length = 1 := rfl
theorem keyL_one (k : K) : ∀ u ∈ keyL k, u.oneCell' = true := by
  intro u hu
  simp only [keyL, List.mem_singleton] at hu
  subst hu; rfl
theorem slK : Try.prog.underlying 40 = some (.slice 9) := by kernel_rfl
theorem infoK : (Try.prog.info? 9).map (fun i => (i.zero, i.size, i.bytes)) = some (some (.string ⟨#[]⟩), 1, 16) := by kernel_rfl
/-- Who is left behind the first j of a slot. -/
def rest (P : List D) (L : List D) (T : Nat) (j : Nat) : List D := P.filter fun y => !((L.take j).any fun z => decide (z.k = y.k) && decide (z.t = T))
theorem rest_skip {P L : List D} {T j : Nat} {y : D} (hy : L[j]? = some y) (ht : y.t ≠ T) : rest P L T (j + 1) = rest P L T j := by
  unfold rest
  apply List.filter_congr
  intro z _
  rw [List.take_add_one, hy, List.any_append]
  simp [ht]
theorem rest_due {P L : List D} {T j : Nat} {y : D} (hy : L[j]? = some y) (ht : y.t = T) : rest P L T (j + 1) = (rest P L T j).filter fun z => decide (z.k ≠ y.k) := by
  unfold rest
  rw [List.filter_filter]
  apply List.filter_congr
  intro z _
  rw [List.take_add_one, hy, List.any_append, Bool.not_or, Bool.and_comm]
  simp [ht, eq_comm]
theorem Wh.rest_all (h : Wh w B F p t m n vs P now seq) (T : Nat) : rest P (P.filter fun y => y.t % n == T % n) T (P.filter fun y => y.t % n == T % n).length = P.filter fun y => decide (y.t ≠ T) := by
  unfold rest
  rw [List.take_length]
  apply List.filter_congr
  intro z hz
  rw [Bool.eq_iff_iff, Bool.not_eq_true', decide_eq_true_iff, Bool.eq_false_iff]
  refine not_congr ?_
  rw [List.any_eq_true]
  constructor
  · rintro ⟨x, hx, hq⟩
    simp only [Bool.and_eq_true, decide_eq_true_eq] at hq
    rw [← h.key_inj (List.mem_filter.1 hx).1 hz hq.1]
    exact hq.2
  · intro e
    exact ⟨z, List.mem_filter.2 ⟨hz, by rw [e]; simp⟩, by simp [e]⟩
theorem Wh.rest_mem (h : Wh w B F p t m n vs P now seq) {L : List D} {i T j : Nat} {y : D} (hL : P.filter (fun y => y.t % n == i) = L) (hy : L[j]? = some y) : y ∈ rest P L T j := by
  have hyP : y ∈ P := by have := List.mem_of_getElem? hy; rw [← hL] at this; exact (List.mem_filter.1 this).1
  unfold rest
  refine List.mem_filter.2 ⟨hyP, ?_⟩
  rw [Bool.not_eq_true', Bool.eq_false_iff]
  intro ha
  obtain ⟨z, hz, hq⟩ := List.any_eq_true.1 ha
  simp only [Bool.and_eq_true, decide_eq_true_eq] at hq
  obtain ⟨q, hqj⟩ := List.mem_iff_getElem?.1 hz
  rw [List.getElem?_take] at hqj
  split at hqj
  · rename_i hlt
    have hk : L.Pairwise fun x y => x.k ≠ y.k := by rw [← hL]; exact h.keys.filter _
    have := pair_inj hk hqj hy (fun h => h hq.1) (fun h => h hq.1.symm)
    omega
  · cases hqj
theorem Wh.ticked {i T : Nat} {v' : Value} (h : Wh w B F p t m n vs P now seq) (hi : i = T % n)
    (hp : At w' p 59 (hd n t m (now + 1) seq)) (ht : At w' t 62 (vs.set i v').toArray)
    (hm : Mp (.string) w' m ((P.filter fun y => decide (y.t ≠ T)).map ent)) {v : Value} (hv : vs[i]? = some v) (hs : Sl 3 due 61 w' w.heap.size v' ((P.filter fun y => y.t % n == i).filter fun y => decide (y.t ≠ T)))
    (hM : w.heap.size ≤ w'.heap.size) (ho : ∀ (j : Nat) (u : Value), vs[j]? = some u → Sl 3 due 61 w' B u (P.filter fun y => y.t % n == j)) :
    Wh w' B (fun g => F g ∨ v'.ownBlock = some g) p t m n (vs.set i v') (P.filter fun y => decide (y.t ≠ T)) (now + 1) seq := by
  have hil : i < vs.length := (List.getElem?_eq_some_iff.1 hv).1
  have hBw : B ≤ w.heap.size := by have := h.fb p h.fp; omega
  have look : ∀ (a : Nat) (u : Value), (vs.set i v')[a]? = some u → (a = i ∧ u = v') ∨ (a ≠ i ∧ vs[a]? = some u) := by
    intro a u hu
    rw [List.getElem?_set] at hu
    split at hu
    · rename_i hia
      simp only [Option.some.injEq] at hu
      exact .inl ⟨hia.symm, hu.symm⟩
    · rename_i hia
      exact .inr ⟨fun e => hia e.symm, hu⟩
  refine ⟨hp, ht, hm, by rw [List.length_set]; exact h.hn, h.n0, h.n1, ?_, ?_, .inl h.fp, .inl h.ft, .inl h.fm, ?_, ?_, h.sq.filter _, fun x hx => h.sb x (List.mem_filter.1 hx).1⟩
  · intro j u hu
    rw [List.filter_filter]
    rcases look j u hu with ⟨rfl, rfl⟩ | ⟨hj, hu⟩
    · rw [List.filter_filter] at hs
      have e : P.filter (fun a => a.t % n == j && decide (a.t ≠ T)) = P.filter (fun a => decide (a.t ≠ T) && a.t % n == j) :=
        List.filter_congr fun y _ => Bool.and_comm _ _
      rw [e]
      exact hs.base hBw
    · have e : P.filter (fun a => a.t % n == j && decide (a.t ≠ T)) = P.filter (fun a => a.t % n == j) :=
        List.filter_congr fun y _ => by
          by_cases hk : y.t = T
          · have : (y.t % n == j) = false := by rw [beq_eq_false_iff_ne, hk, ← hi]; exact Ne.symm hj
            rw [this]; rfl
          · simp [hk]
      rw [e]
      exact ho j u hu
  · intro a b u u' g hu hu' hg hg'
    have key : ∀ (a : Nat) (u : Value), vs[a]? = some u → u.ownBlock = some g → v'.ownBlock = some g → False := by
      intro a u hu hg hg'
      have h1 := (h.fb g (h.fo a u g hu hg)).2
      have h2 := (hs.ge hg').1
      omega
    rcases look a u hu with ⟨ea, eu⟩ | ⟨ha, h1⟩ <;> rcases look b u' hu' with ⟨eb, eu'⟩ | ⟨hb, h2⟩
    · rw [ea, eb]
    · exact (key b u' h2 hg' (eu ▸ hg)).elim
    · exact (key a u h1 hg (eu' ▸ hg')).elim
    · exact h.own a b u u' g h1 h2 hg hg'
  · intro a u g hu hg
    rcases look a u hu with ⟨rfl, rfl⟩ | ⟨ha, hu⟩
    · exact .inr hg
    · exact .inl (h.fo a u g hu hg)
  · rintro g (hg | hg)
    · exact ⟨(h.fb g hg).1, Nat.lt_of_lt_of_le (h.fb g hg).2 hM⟩
    · exact ⟨Nat.le_trans hBw (hs.ge hg).1, (hs.ge hg).2⟩
theorem keyAt {v : Value} {L : List K} {g : Nat} (h : Sl 1 keyL 9 w B v L) (hv : v.ownBlock = some g) : ∃ cs, At w g 9 cs := by
  rcases h.cases with ⟨rfl, _⟩ | ⟨g', c', cur, rfl, h2, h3, _⟩
  · cases hv
  · simp only [Value.ownBlock, Option.some.injEq] at hv
    subst hv
    exact ⟨_, h3⟩
/-- What a Tick leaves. -/
def Ticked (w w' : World) (B : Nat) (F : Nat → Prop) (p t m n : Nat) (P : List D) (now seq : Nat) (out : Value) : Prop :=
  ∃ (F' : Nat → Prop) (vs' : List Value), Wh w' B F' p t m n vs' (P.filter fun y => decide (y.t ≠ now + 1)) (now + 1) seq ∧ Sl 1 keyL 9 w' w.heap.size out ((P.filter fun y => decide (y.t = now + 1)).map (·.k)) ∧
    (∀ g, out.ownBlock = some g → ¬ F' g) ∧ (∀ g, F' g → F g ∨ w.heap.size ≤ g) ∧ Mod F w w'
set_option maxHeartbeats 2000000 in
theorem tick_any (h : Wh w B F p t m n vs P now seq) (hnow : now ≤ 1152921504606846976) (hbig : P.length ≤ 1048576) :
    Calls Try.prog 17 #[.pointer (some ⟨p, 0, none⟩)] w fun e w' =>
      ∃ out, e = .returned out ∧ Ticked w w' B F p t m n P now seq out := by
  have H0 := Lib.hid h
  have c2 := h.hp.cell 2
  have c0 := h.hp.cell 0
  have f2 := h.hp.frozen 2
  have hpl := h.hp.lt
  simp only [List.getElem?_toArray, List.getElem?_cons_zero, List.getElem?_cons_succ] at c2 c0
  have hset : Mod (fun b => b = p) w (w.setCell ⟨p, 2, none⟩ (.int .i64 (now + 1 : Nat))) := (Mod.refl _ _).setCell ⟨p, 2, none⟩ _ (fun _ => rfl)
  have HMD := Lib.hid (show Md (w.setCell ⟨p, 2, none⟩ (.int .i64 (now + 1 : Nat))) B p t m n _ vs P P from
    ⟨h.hp.set 2 _, h.ht.mod hset (fun e => h.ne_pt e.symm), h.hm.mod hset (fun e => h.ne_pm e.symm), fun i v hv => (h.sl i v hv).mod hset fun g hg e => (h.ne_own hv hg).1 e⟩)
  have HM := Lib.hid ((Mod.refl F w).setCell ⟨p, 2, none⟩ (.int .i64 (now + 1 : Nat)) (fun _ => h.fp))
  have HZ := Lib.hid (show w.heap.size ≤ (w.setCell ⟨p, 2, none⟩ (.int .i64 (now + 1 : Nat))).heap.size by simp [World.setCell])
  clear h hset
  go_enter Try.func17, Try.ntmps17
  go_wp2_with fail
  rw [show ((now : Int) + 1) = ((now + 1 : Nat) : Int) from rfl]
  obtain ⟨T, hT⟩ : ∃ T, T = now + 1 := ⟨_, rfl⟩
  rw [← hT] at HMD HM HZ ⊢
  have HT := Lib.hid hT
  clear hT c2 c0 f2 hpl
  generalize w.setCell ⟨p, 2, none⟩ (.int .i64 (T : Nat)) = W at *
  obtain ⟨i, hi⟩ : ∃ i, i = T % n := ⟨_, rfl⟩
  have HI := Lib.hid hi
  have hin : i < n := by rw [hi]; exact Nat.mod_lt _ H0.out.n0
  have hn0 : ¬ n = 0 := by have := H0.out.n0; omega
  have hmod : Int.tmod (T : Int) (n : Int) = (i : Int) := by rw [hi]; rfl
  clear hi
  have c2 := HMD.out.hp.cell 2
  have c0 := HMD.out.hp.cell 0
  have hpl := HMD.out.hp.lt
  simp only [List.getElem?_toArray, List.setIfInBounds_toArray, List.set_cons_zero, List.set_cons_succ, List.getElem?_cons_zero, List.getElem?_cons_succ] at c2 c0
  refine region_sq (fun _ => False) [(0, true), (1, true), (2, true), (3, true), (4, true), (5, true), (6, true), (7, true), (8, true), (9, true), (10, true)] (by kernel_rfl) (by kernel_rfl) (fun _ _ d _ _ h => by cases d <;> exact h) ?_
  repeat (first
      | (refine sq_yes rfl (by rfl) (fun w' hM => by ((try replace hM := hM.of_drew); obtain ⟨hR1, hR2, hR3⟩ := hM.rules; clear hM; go_simp; with_reducible rfl)) ?_; simp only [Act.put, List.setIfInBounds_toArray, List.set_cons_zero, List.set_cons_succ])
      | (refine sq_no rfl (by rfl) ?_; simp only [Act.put, List.setIfInBounds_toArray, List.set_cons_zero, List.set_cons_succ]))
  refine sq_end ?_
  replace HMD := Lib.hid HMD.out.drew
  replace HM := Lib.hid HM.out.drew
  replace HZ := Lib.hid (show w.heap.size ≤ W.drew.heap.size from HZ.out)
  clear c2 c0 hpl hmod hn0
  generalize W.drew = W2 at *
  obtain ⟨v, hv⟩ : ∃ v, vs[i]? = some v := ⟨_, List.getElem?_eq_getElem (by have := H0.out.hn; omega)⟩
  have HV := Lib.hid hv
  have HLE := Lib.hid (show (P.filter (fun y => y.t % n == i)).length ≤ P.length from List.length_filter_le _ _)
  have HS := HMD.out.sl i v hv
  generalize hLq : P.filter (fun y => y.t % n == i) = L at *
  have HL := Lib.hid hLq
  obtain ⟨av, cv, rfl⟩ := HS.form
  have hLe : L.length ≤ 1048576 := Nat.le_trans HLE.out hbig
  have hinz : (i : Int) < (n : Int) := by omega
  have c0 := HMD.out.hp.cell 0
  have ct := HMD.out.ht.cell i
  have hpl := HMD.out.hp.lt
  rw [List.getElem?_toArray, hv] at ct
  simp only [List.getElem?_toArray, List.setIfInBounds_toArray, List.set_cons_zero, List.set_cons_succ, List.getElem?_cons_zero] at c0
  obtain ⟨W0, hW0⟩ : ∃ W0, W0 = w.heap.size := ⟨_, rfl⟩
  have HW0 := Lib.hid hW0
  rw [← hW0] at HZ
  have HLow := Lib.hid (show ∀ g, F g → g < W0 from fun g hg => by rw [hW0]; exact (H0.out.fb g hg).2)
  obtain ⟨cH, hcH⟩ : ∃ c, c = (hd n t m now seq).setIfInBounds 2 (.int .i64 (T : Nat)) := ⟨_, rfl⟩
  have HCH := Lib.hid hcH
  rw [← hcH] at HMD
  clear hW0 hcH hv hLq HS
  go_wp2_with fail
  clear ct c0 hpl
  go_loopw [2, 4, 6, 34] (fun out left _ s34 wr => ∃ j : Nat, s34 = .int .i64 (j : Nat) ∧ j ≤ L.length ∧ Sl 3 due 61 wr W0 left ((L.take j).filter fun y => decide (y.t ≠ T)) ∧ Sl 1 keyL 9 wr W0 out (((L.take j).filter fun y => decide (y.t = T)).map (·.k)) ∧ Md wr B p t m n cH vs P (rest P L T j) ∧ Mod F w wr ∧ W0 ≤ wr.heap.size) (fun _ _ _ s34 _ => L.length - (intOf s34).toNat)
  case atStart =>
    refine ⟨0, rfl, Nat.zero_le _, Sl.nil _ _ _ _ _, Sl.nil _ _ _ _ _, ?_, HM.out, HZ.out⟩
    have e : rest P L T 0 = P := by unfold rest; rw [List.take_zero]; simp
    rw [e]; exact HMD.out
  case round =>
    clear HMD HM HZ
    obtain ⟨j, rfl, hj, hsl, hso, hmd, hm, hz⟩ := hrel
    have HLF := Lib.hid hsl
    have HOUT := Lib.hid hso
    have HMD := Lib.hid hmd
    have HM := Lib.hid hm
    have HZ := Lib.hid hz
    by_cases hlt : j < L.length
    · have hltz : (j : Int) < (L.length : Int) := by omega
      obtain ⟨y, hy⟩ : ∃ y, L[j]? = some y := ⟨_, List.getElem?_eq_getElem (by omega)⟩
      have hsv := hmd.sl i _ HV.out
      rw [HL.out] at hsv
      obtain ⟨g, rfl, -, hnc, hBg, hgl, hc⟩ := hsv.cells due_len hy
      have c0 := hc 0 (by omega)
      have c1 := hc 1 (by omega)
      have c2 := hc 2 (by omega)
      simp only [due, List.getElem?_cons_zero, List.getElem?_cons_succ, Nat.add_zero] at c0 c1 c2
      have HY := Lib.hid hy
      clear hc hsv hsl hso hmd hm hz hy
      go_wp2_with fail
      obtain ⟨bx, hbx⟩ : ∃ bx, bx = wr.heap.size := ⟨_, rfl⟩
      rw [← hbx]
      have HBX := Lib.hid (at_new wr 61 #[.string (y.k), .int .i64 (y.t : Nat), .int .i64 (y.s : Nat)] bx hbx)
      have hb1 : Below wr.heap.size wr (wr.alloc (.cells #[.string (y.k), .int .i64 (y.t : Nat), .int .i64 (y.s : Nat)] 61)) := (Below.refl _ _).alloc (Nat.le_refl _) _
      replace HLF := Lib.hid (HLF.out.below hb1)
      replace HOUT := Lib.hid (HOUT.out.below hb1)
      replace HMD := Lib.hid (HMD.out.below hb1)
      replace HM := Lib.hid (HM.out.trans (Mod.of_below hb1))
      replace HZ := Lib.hid (Nat.le_trans HZ.out hb1.size)
      clear hbx hb1 c0 c1 c2 hgl
      generalize wr.alloc (.cells #[.string (y.k), .int .i64 (y.t : Nat), .int .i64 (y.s : Nat)] 61) = W3 at *
      have cb1 := HBX.out.cell 1
      have hbl := HBX.out.lt
      have c2 := HMD.out.hp.cell 2
      have hpl := HMD.out.hp.lt
      rw [HCH.out] at c2
      simp only [List.getElem?_toArray, List.setIfInBounds_toArray, List.set_cons_zero, List.set_cons_succ, List.getElem?_cons_zero, List.getElem?_cons_succ] at c2 cb1
      refine region_sq (fun _ => False) [(0, true), (1, true), (2, true), (3, true), (4, true), (5, true), (6, true)] (by kernel_rfl) (by kernel_rfl) (fun _ _ d _ _ h => by cases d <;> exact h) ?_
      repeat (first
          | (refine sq_yes rfl (by rfl) (fun w' hM => by ((try replace hM := hM.of_drew); obtain ⟨hR1, hR2, hR3⟩ := hM.rules; clear hM; go_simp; with_reducible rfl)) ?_; simp only [Act.put, List.setIfInBounds_toArray, List.set_cons_zero, List.set_cons_succ])
          | (refine sq_no rfl (by rfl) ?_; simp only [Act.put, List.setIfInBounds_toArray, List.set_cons_zero, List.set_cons_succ]))
      refine sq_end ?_
      replace HBX := Lib.hid HBX.out.drew
      replace HLF := Lib.hid HLF.out.drew
      replace HOUT := Lib.hid HOUT.out.drew
      replace HMD := Lib.hid HMD.out.drew
      replace HM := Lib.hid HM.out.drew
      replace HZ := Lib.hid (show W0 ≤ W3.drew.heap.size from HZ.out)
      clear cb1 hbl c2 hpl
      generalize W3.drew = W4 at *
      have cb0 := HBX.out.cell 0
      have cb1 := HBX.out.cell 1
      have cb2 := HBX.out.cell 2
      have hbl := HBX.out.lt
      simp only [List.getElem?_toArray, List.getElem?_cons_zero, List.getElem?_cons_succ] at cb0 cb1 cb2
      have HLF1 := Lib.hid (show ((L.take j).filter fun y => decide (y.t ≠ T)).length ≤ 1048576 from Nat.le_trans (List.length_filter_le _ _) (by rw [List.length_take]; omega))
      have HOT1 := Lib.hid (show (((L.take j).filter fun y => decide (y.t = T)).map (·.k)).length ≤ 1048576 by rw [List.length_map]; exact Nat.le_trans (List.length_filter_le _ _) (by rw [List.length_take]; omega))
      by_cases ht : y.t = T
      · have hq : ((y.t : Int) != (T : Int)) = false := by rw [ht]; exact bne_self_eq_false _
        rw [hq]
        have HTT := Lib.hid ht
        clear hq ht
        go_wp2_with (at_builtin; refine wpList_sl_app1 (y := y.k) rfl keyL_len keyL_one slK infoK rfl (by decide) HOUT.out rfl (by have h1 := HOT1.out; unfold maxLen; omega) (by have h1 := HOT1.out; omega) HZ.out rfl rfl rfl rfl ?_; intro v' W5 hs5 hm5 ho5; have HS5 := Lib.hid hs5; have HM5 := Lib.hid hm5; have HO5 := Lib.hid ho5; clear hs5 hm5 ho5)
        have hge := fun g (hg : u2.ownBlock = some g) => (HOUT.out.ge hg).1
        have nF := fun g (hf : F g) (hg : u2.ownBlock = some g) => (by have h1 := hge g hg; have h2 := HLow.out g hf; omega : False)
        replace HLF := Lib.hid (HLF.out.mod HM5.out (fun g hg ho => by
          obtain ⟨_, h1⟩ := slAt HLF.out hg
          obtain ⟨_, h2⟩ := keyAt HOUT.out ho
          exact h1.ne h2 (by decide) rfl))
        replace HBX := Lib.hid (HBX.out.mod HM5.out (fun ho => by
          obtain ⟨_, h2⟩ := keyAt HOUT.out ho
          exact HBX.out.ne h2 (by decide) rfl))
        replace HMD := Lib.hid (HMD.out.mod HM5.out (nF p H0.out.fp) (nF t H0.out.ft) (nF m H0.out.fm) (fun i' v'' g hv hg => nF g (H0.out.fo i' v'' g hv hg)))
        replace HM := Lib.hid (Mod.step HM.out HM5.out (fun g hg ho => by have h1 := hge g ho; have h2 := HW0.out; omega))
        replace HZ := Lib.hid (Nat.le_trans HZ.out HM5.out.size)
        clear hge nF HM5 HO5 HOUT HLF1 HOT1 cb0 cb1 cb2 hbl
        have cb0 := HBX.out.cell 0
        have hbl := HBX.out.lt
        have c1 := HMD.out.hp.cell 1
        have hpl := HMD.out.hp.lt
        rw [HCH.out] at c1
        simp only [List.getElem?_toArray, List.setIfInBounds_toArray, List.set_cons_zero, List.set_cons_succ, List.getElem?_cons_zero, List.getElem?_cons_succ] at c1 cb0
        have nmp : ¬ p = m := H0.out.ne_pm
        have nmb : ¬ bx = m := HMD.out.hm.notAt HBX.out
        refine region_sq (fun b => b = m) [(0, true), (1, true), (2, true), (3, true), (4, true), (5, true), (6, false)] (by kernel_rfl) (by kernel_rfl) (fun _ _ d _ _ h => by cases d <;> exact h) ?_
        repeat (first
            | (refine sq_yes rfl (by rfl) (fun w' hM => by ((try replace hM := hM.of_drew); obtain ⟨hR1, hR2, hR3⟩ := hM.rules; clear hM; go_simp; with_reducible rfl)) ?_; simp only [Act.put, List.setIfInBounds_toArray, List.set_cons_zero, List.set_cons_succ])
            | (refine sq_no rfl (by rfl) ?_; simp only [Act.put, List.setIfInBounds_toArray, List.set_cons_zero, List.set_cons_succ]))
        obtain ⟨jx, hjx⟩ := List.mem_iff_getElem?.1 (H0.out.rest_mem (T := T) HL.out HY.out)
        obtain ⟨W6, hdel, hmp6, hm6, -⟩ := (show Mp (.string) W5.drew m _ from HMD.out.hm.drew).del_yes (P := Try.prog) mapT keyT (isK y.k) (j := jx) (by rw [List.getElem?_map, hjx]; rfl) 0
        have hmb : (rest P L T j).Pairwise fun x y => x.k ≠ y.k := H0.out.keys.filter _
        rw [map_eraseIdx, erase_filter (fun z => decide (z.k ≠ y.k)) (rest P L T j) jx y hjx (by simp) (fun i' z hi' hz => by
          simp only [decide_eq_true_eq]
          exact fun he => hi' (pair_inj hmb hz hjx (fun h => h he) (fun h => h he.symm))), ← rest_due HY.out HTT.out] at hmp6
        have HMP6 := Lib.hid hmp6
        have HM6 := Lib.hid hm6
        clear hjx hmp6 hm6 hmb c1 cb0 hbl hpl
        refine sq_do_yes rfl (by rfl) (fun K_ hK_ => ?_)
        go_wp2_with fail
        refine ⟨HM6.out, ?_⟩
        refine sq_end ?_
        have hmd : Mod (fun b => b = m) W5 W6 := HM6.out.of_drew
        have HM7 := Lib.hid hmd
        clear hmd
        go_wp2_with fail
        go_roundw
        case rel =>
          have hmd := HM7.out
          refine ⟨j + 1, by simp, by omega, ?_, ?_, ⟨HMD.out.hp.mod hmd H0.out.ne_pm, HMD.out.ht.mod hmd H0.out.ne_tm, HMP6.out, fun i' u hu => (HMD.out.sl i' u hu).mod hmd (fun g hg e => (H0.out.ne_own hu hg).2.2 e)⟩, HM.out.trans (hmd.mono (fun b _ hb => by rw [hb]; exact H0.out.fm)), Nat.le_trans HZ.out hmd.size⟩
          · rw [List.take_add_one, HY.out, List.filter_append]
            have e : ([y].filter fun y => decide (y.t ≠ T)) = [] := by simp [HTT.out]
            rw [Option.toList_some, e, List.append_nil]
            exact HLF.out.mod hmd (fun g hg e => by
              obtain ⟨_, h1⟩ := slAt HLF.out hg
              exact HMD.out.hm.notAt h1 e)
          · rw [List.take_add_one, HY.out, List.filter_append, List.map_append]
            have e : ([y].filter fun y => decide (y.t = T)) = [y] := by simp [HTT.out]
            rw [Option.toList_some, e]
            exact HS5.out.mod hmd (fun g hg e => by
              obtain ⟨_, h1⟩ := keyAt HS5.out hg
              exact HMD.out.hm.notAt h1 e)
        case measure => simp [intOf] <;> omega
      · have hq : ((y.t : Int) != (T : Int)) = true := by rw [bne_iff_ne]; omega
        rw [hq]
        have HTT := Lib.hid ht
        clear hq ht
        go_wp2_with (at_builtin; refine wpList_sl_app1 (y := y) rfl due_len due_one slT infoD rfl (by decide) HLF.out rfl (by have h1 := HLF1.out; unfold maxLen; omega) (by have h1 := HLF1.out; omega) HZ.out rfl rfl rfl rfl ?_; intro v' W5 hs5 hm5 ho5; have HS5 := Lib.hid hs5; have HM5 := Lib.hid hm5; have HO5 := Lib.hid ho5; clear hs5 hm5 ho5)
        have hge := fun g (hg : u4.ownBlock = some g) => (HLF.out.ge hg).1
        have nF := fun g (hf : F g) (hg : u4.ownBlock = some g) => (by have h1 := hge g hg; have h2 := HLow.out g hf; omega : False)
        go_roundw
        case rel =>
          refine ⟨j + 1, by simp, by omega, ?_, ?_, ?_, Mod.step HM.out HM5.out (fun g hg ho => by have h1 := hge g ho; have h2 := HW0.out; omega), Nat.le_trans HZ.out HM5.out.size⟩
          · rw [List.take_add_one, HY.out, List.filter_append]
            have e : ([y].filter fun y => decide (y.t ≠ T)) = [y] := by simp [HTT.out]
            rw [Option.toList_some, e]
            exact HS5.out
          · rw [List.take_add_one, HY.out, List.filter_append]
            have e : ([y].filter fun y => decide (y.t = T)) = [] := by simp [HTT.out]
            rw [Option.toList_some, e, List.append_nil]
            exact HOUT.out.mod HM5.out (fun g hg ho => by
              obtain ⟨_, h1⟩ := slAt HLF.out ho
              obtain ⟨_, h2⟩ := keyAt HOUT.out hg
              exact h1.ne h2 (by decide) rfl)
          · rw [rest_skip HY.out HTT.out]
            exact HMD.out.mod HM5.out (nF p H0.out.fp) (nF t H0.out.ft) (nF m H0.out.fm) (fun i' v'' g hv hg => nF g (H0.out.fo i' v'' g hv hg))
        case measure => simp [intOf] <;> omega
    · have hltz : ¬ (j : Int) < (L.length : Int) := by omega
      have hjl : j = L.length := by omega
      subst hjl
      rw [List.take_length] at hsl hso
      have hre : rest P L T L.length = P.filter fun y => decide (y.t ≠ T) := by
        have := H0.out.rest_all T
        rw [← HI.out, HL.out] at this
        exact this
      rw [hre] at hmd
      have hdue : (L.filter fun y => decide (y.t = T)) = P.filter fun y => decide (y.t = T) := by
        rw [← HL.out, List.filter_filter]
        apply List.filter_congr
        intro z _
        by_cases hz : z.t = T
        · simp [hz, HI.out]
        · simp [hz]
      rw [hdue] at hso
      clear HLF HOUT HMD HM HZ hre hdue
      have ct := hmd.ht.cell i
      have ft := hmd.ht.frozen i
      have htl := hmd.ht.lt
      have c0 := hmd.hp.cell 0
      have hpl := hmd.hp.lt
      rw [List.getElem?_toArray, HV.out] at ct
      rw [HCH.out] at c0
      simp only [List.getElem?_toArray, List.setIfInBounds_toArray, List.set_cons_zero, List.set_cons_succ, List.getElem?_cons_zero] at c0
      have HMD := Lib.hid hmd
      have HM := Lib.hid hm
      have HZ := Lib.hid hz
      have HOUT := Lib.hid hso
      have HLF := Lib.hid hsl
      obtain ⟨al, cl, hal⟩ := hsl.form
      obtain ⟨nl, hnl⟩ : ∃ q, q = (L.filter fun y => decide (y.t ≠ T)).length := ⟨_, rfl⟩
      rw [← hnl] at hal
      clear hsl hso hmd hm hz hnl
      subst hal
      go_wp2_with fail
      go_ret
      refine ⟨u2, rfl, ?_⟩
      obtain ⟨v', hv'⟩ : ∃ v', v' = Value.slice al nl cl := ⟨_, rfl⟩
      rw [← hv'] at HLF ⊢
      have hne : ∀ g, v'.ownBlock = some g → g ≠ p ∧ g ≠ t ∧ g ≠ m := fun g hg => by
        have h1 := (HLF.out.ge hg).1
        refine ⟨fun e => ?_, fun e => ?_, fun e => ?_⟩
        · have h2 := HLow.out p H0.out.fp; omega
        · have h2 := HLow.out t H0.out.ft; omega
        · have h2 := HLow.out m H0.out.fm; omega
      have hst : Mod (fun b => b = t) wr (wr.setCell ⟨t, i, none⟩ v') := (Mod.refl _ _).setCell _ _ (fun _ => rfl)
      have eT := HT.out
      have eC := HCH.out
      have eW := HW0.out
      subst eT
      subst eC
      subst eW
      refine ⟨_, _, H0.out.ticked (v' := v') HI.out (HMD.out.hp.mod hst H0.out.ne_pt) ?_ (HMD.out.hm.mod hst (fun e => H0.out.ne_tm e.symm)) HV.out ?_ (Nat.le_trans HZ.out hst.size) ?_, HOUT.out.mod hst ?_, ?_, ?_, HM.out.trans (hst.mono (fun b _ hb => by rw [hb]; exact H0.out.ft))⟩
      · have := HMD.out.ht.set i v'
        rwa [List.setIfInBounds_toArray] at this
      · rw [HL.out]
        exact HLF.out.mod hst (fun g hg e => (hne g hg).2.1 e)
      · exact fun j u hu => (HMD.out.sl j u hu).mod hst (fun g hg e => (H0.out.ne_own hu hg).2.1 e)
      · intro g hg e
        have h1 := (HOUT.out.ge hg).1
        have h2 := HLow.out t H0.out.ft
        omega
      · rintro g hg (hf | hl)
        · have h1 := (HOUT.out.ge hg).1
          have h2 := HLow.out g hf
          omega
        · obtain ⟨_, h1⟩ := slAt HLF.out hl
          obtain ⟨_, h2⟩ := keyAt HOUT.out hg
          exact h1.ne h2 (by decide) rfl
      · rintro g (hf | hl)
        · exact .inl hf
        · exact .inr (HLF.out.ge hl).1
end Ws
end Go.Proofs.Ytaadkehopfjclaa
