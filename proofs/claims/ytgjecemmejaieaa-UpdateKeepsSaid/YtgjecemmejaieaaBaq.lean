/-
  Texts in one, each behind those that it needs: UpAct, UpGo, UpGoB, UpVer.
-/
import Derived.Test.YtgjecemmejaieaaBap
/-
  An update: what turns of it; Ask, Waiting.
-/
namespace Go.Proofs.Ytgjecemmejaieaa
open Go.RowKit Go.Shelf
section
variable {w w' : World} {c : Cf} {k : Uk} {s : Us}
theorem Qu.ne2 {e : TypeId} {w : World} {B : Nat} {v : Value} {xs : List Value} (h : Qu e w B v xs) {g t : Nat} {e' : TypeId} {cs : Array Value} (hg : v.ownBlock = some g) (ht : At w t e' cs) (hne : e ≠ e') : g ≠ t := fun x => h.ne ht hne (by rw [← x]; exact hg)
/-- An act at the pool. -/
theorem Up.act (h : Up w c k s) {d' : Pd} (hd : d'.P w' c) (hp : d'.p = s.d.p) (_ht : d'.t = s.d.t) (hB : d'.B = s.d.B) (hm : Md s.d.p s.d.t w w') : Up w' c k { s with d := d' } := by
  obtain ⟨cs, hc⟩ := h.pool.tAt
  have key : ∀ (g : Nat) (t : TypeId) (cs' : Array Value), At w g t cs' → t ≠ 93 → t ≠ 90 → At w' g t cs' := fun g t cs' hg h1 h2 => hg.mod hm (by
    rintro (e | e)
    · exact At.ne hg h.pool.obj h1 e
    · exact At.ne hg hc h2 e)
  refine ⟨by simp only [hp]; exact key _ _ _ h.obj (by decide) (by decide), h.qu.mod hm fun g hg => ?_, hd, key _ _ _ h.flt (by decide) (by decide), key _ _ _ h.wds (by decide) (by decide), key _ _ _ h.fam (by decide) (by decide), h.bu, by simp only [hB]; exact h.bd, h.bg, h.hl, h.hx, h.hN, h.hN2, h.h1, h.h2, h.hb1, h.big⟩
  rintro (e | e)
  · exact h.qu.ne2 hg h.pool.obj (by decide) e
  · exact h.qu.ne2 hg hc (by decide) e
/-- The object turned, by a cell. -/
theorem Up.put (h : Up w c k s) {s' : Us} (j : Nat) (v : Value) (hs : (upc s.d.p k.gb s.st s.lv s.work s.old s.mark).setIfInBounds j v = upc s'.d.p k.gb s'.st s'.lv s'.work s'.old s'.mark) (hd : s'.d = s.d) (hws : s'.ws = s.ws)
    (hq : Qu 3 w k.B s'.lv (nis s'.l)) (hbig : s'.l.length ≤ 100000) : Up (w.setCell ⟨k.u, j, none⟩ v) c k s' ∧ Mod (fun g => g = k.u) w (w.setCell ⟨k.u, j, none⟩ v) := by
  have hm : Mod (fun g => g = k.u) w (w.setCell ⟨k.u, j, none⟩ v) := (Mod.refl _ w).setCell ⟨k.u, j, none⟩ v (fun _ => rfl)
  have ho := h.obj.set j v
  rw [hs] at ho
  obtain ⟨cs, hc⟩ := h.pool.tAt
  refine ⟨⟨ho, hq.mod hm fun g hg e => hq.ne2 hg h.obj (by decide) e, ?_, h.flt.mod hm (At.ne h.flt h.obj (by decide)), ?_, h.fam.mod hm (At.ne h.fam h.obj (by decide)), h.bu, by rw [hd]; exact h.bd, h.bg, by rw [hws]; exact h.hl, by rw [hws]; exact h.hx, h.hN, h.hN2, h.h1, h.h2, h.hb1, hbig⟩, hm⟩
  · rw [hd]
    exact h.pool.away hm (At.ne h.pool.obj h.obj (by decide)) (At.ne hc h.obj (by decide)) (fun g cs hg => At.ne hg h.obj (by decide)) (fun g cs hg => At.ne hg h.obj (by decide))
  · rw [hws]
    exact h.wds.mod hm (At.ne h.wds h.obj (by decide))
/-- One more waits. -/
theorem Up.push (h : Up w c k s) {w2 : World} {v2 : Value} {l2 : List Nat} (hm : Mod (fun g => s.lv.ownBlock = some g) w w2) (hq : Qu 3 w2 k.B v2 (nis l2)) (hbig : l2.length ≤ 100000) :
    Up (w2.setCell ⟨k.u, 3, none⟩ v2) c k { s with lv := v2, l := l2 } ∧ Mod (UM k s) w (w2.setCell ⟨k.u, 3, none⟩ v2) := by
  have ho := h.obj.mod hm (h.qu.ne h.obj (by decide))
  have hm2 : Mod (fun g => g = k.u) w2 (w2.setCell ⟨k.u, 3, none⟩ v2) := (Mod.refl _ w2).setCell ⟨k.u, 3, none⟩ v2 (fun _ => rfl)
  obtain ⟨cs, hc⟩ := h.pool.tAt
  have hp := h.pool.away hm (h.qu.ne h.pool.obj (by decide)) (h.qu.ne hc (by decide)) (fun g cs hg => h.qu.ne hg (by decide)) (fun g cs hg => h.qu.ne hg (by decide))
  have hp2 := hp.away hm2 (At.ne hp.obj ho (by decide)) (At.ne (hc.mod hm (h.qu.ne hc (by decide))) ho (by decide)) (fun g cs hg => At.ne hg ho (by decide)) (fun g cs hg => At.ne hg ho (by decide))
  have hf := h.flt.mod hm (h.qu.ne h.flt (by decide))
  have hw := h.wds.mod hm (h.qu.ne h.wds (by decide))
  have hff := h.fam.mod hm (h.qu.ne h.fam (by decide))
  refine ⟨⟨?_, hq.mod hm2 fun g hg e => hq.ne2 hg ho (by decide) e, hp2, hf.mod hm2 (At.ne hf ho (by decide)), hw.mod hm2 (At.ne hw ho (by decide)), hff.mod hm2 (At.ne hff ho (by decide)), h.bu, h.bd, h.bg, h.hl, h.hx, h.hN, h.hN2, h.h1, h.h2, h.hb1, hbig⟩, ?_⟩
  · exact ho.set 3 v2
  · exact (hm.mono fun g _ hg => .inr (.inr (.inr (.inr hg)))).trans (hm2.mono fun g _ hg => .inl hg)
/-- The filter's words turned. -/
theorem Up.words (h : Up w c k s) {ws' : List Nat} (hm : Mod (fun g => g = k.gw) w w') (hw : At w' k.gw 131 (wd ws')) (hl : ws'.length = nw k.N) (hx : ∀ x ∈ ws', x < 18446744073709551616) : Up w' c k { s with ws := ws' } := by
  obtain ⟨cs, hc⟩ := h.pool.tAt
  exact ⟨h.obj.mod hm (At.ne h.obj h.wds (by decide)), h.qu.mod hm fun g hg e => h.qu.ne2 hg h.wds (by decide) e,
    h.pool.away hm (At.ne h.pool.obj h.wds (by decide)) (At.ne hc h.wds (by decide)) (fun g cs hg => At.ne hg h.wds (by decide)) (fun g cs hg => At.ne hg h.wds (by decide)),
    h.flt.mod hm (At.ne h.flt h.wds (by decide)), hw, h.fam.mod hm (At.ne h.fam h.wds (by decide)), h.bu, h.bd, h.bg, hl, hx, h.hN, h.hN2, h.h1, h.h2, h.hb1, h.big⟩
/-- The pool behind a version that was asked for. -/
def Pd.asked (d : Pd) (v : Nat) (plv psv : Value) (M : List Mb) (n : Nat) : Pd := { d with vs := d.vs.set v ⟨psv, fillR d.S M n, 0, true⟩, lv := plv, L := M, sv := psv, S := fillR d.S M n }
def AskPost (w : World) (c : Cf) (k : Uk) (s : Us) (M : List Mb) (n : Nat) (e : Ending) (w' : World) : Prop :=
  ∃ v, v ≤ s.d.vs.length ∧ (∀ i : Nat, i < v → liveB s.d.vs s.d.now i = true) ∧
    ((v = s.d.vs.length ∧ e = .returned (.tuple #[.int .i64 0, .int .i64 3]) ∧ Below w.heap.size w w') ∨
     (v < s.d.vs.length ∧ liveB s.d.vs s.d.now v = false ∧ e = .returned (.tuple #[.int .i64 (v : Nat), .int .i64 0]) ∧ ∃ plv psv lv', Up w' c k { s with d := s.d.asked v plv psv M n, lv := lv', l := s.l ++ [v] } ∧ Mod (UM k s) w w' ∧ (lv'.ownBlock = s.lv.ownBlock ∨ ∃ q, lv'.ownBlock = some q ∧ w.heap.size ≤ q)))
theorem Md.um {d : Pd} (hm : Md d.p d.t w w') (hd : s.d = d) : Mod (UM k s) w w' := hm.mono fun g _ hg => by
  subst hd
  rcases hg with e | e
  · exact .inr (.inl e)
  · exact .inr (.inr (.inl e))
set_option maxRecDepth 100000 in
set_option maxHeartbeats 4000000 in
theorem uask_any (h : Up w c k s) (am : Option Addr) (nm cm B2 n : Nat) (M : List Mb) (hM : Sl 19 Mb.l 108 w B2 (.slice am nm cm) M) (hok : mOk M = true) (hn : c.slots = n) (h1 : 1 ≤ n) (h2 : n ≤ 64) (hS : s.d.S.length = 0 ∨ s.d.S.length = n) (hbig : s.l.length < 100000) :
    Calls Try.prog 10 #[.pointer (some ⟨k.u, 0, none⟩), .slice am nm cm] w fun e w' => AskPost w c k s M n e w' := by
  have H := Lib.hid h
  have HM := Lib.hid hM
  have HOK := Lib.hid hok
  have HN := Lib.hid hn
  have HS := Lib.hid hS
  have HBG := Lib.hid hbig
  obtain ⟨c0, -, -, -, -, -, -, lu⟩ := h.cells
  obtain ⟨u, hu⟩ : ∃ u, u = k.u := ⟨_, rfl⟩
  obtain ⟨p, hp⟩ : ∃ p, p = s.d.p := ⟨_, rfl⟩
  rw [← hu] at c0 lu ⊢
  rw [← hp] at c0
  have HU := Lib.hid hu
  have HP := Lib.hid hp
  clear h hM hok hn hS hbig hu hp
  go_enter Try.func10, Try.ntmps10
  go_wp2_with fail
  have hr := reserve_any am nm cm B2 n M H.out.pool HM.out HOK.out HN.out h1 h2 HS.out
  rw [← HP.out] at hr
  refine hr.mono ?_
  rintro e w1 ⟨v, hv, hlv, ⟨h3, rfl, hb⟩ | ⟨h3, h4, rfl, plv, psv, hP1, hm1⟩⟩
  · have HE := Lib.hid (⟨h3, hlv, hb⟩ : v = s.d.vs.length ∧ (∀ i : Nat, i < v → liveB s.d.vs s.d.now i = true) ∧ Below w.heap.size w w1)
    clear hr h3 hlv hb c0 lu hv
    go_wp2_with fail
    go_ret2
    exact ⟨v, by rw [HE.out.1]; exact Nat.le_refl _, HE.out.2.1, .inl ⟨HE.out.1, rfl, HE.out.2.2⟩⟩
  · have HE := Lib.hid (⟨h3, hlv, h4⟩ : v < s.d.vs.length ∧ (∀ i : Nat, i < v → liveB s.d.vs s.d.now i = true) ∧ liveB s.d.vs s.d.now v = false)
    rw [HP.out] at hP1 hm1
    have H1 := Lib.hid (H.out.act (d' := s.d.asked v plv psv M n) hP1 rfl rfl rfl hm1)
    have HM1 := Lib.hid (Md.um (k := k) (s := s) hm1 rfl)
    clear hr h3 hlv h4 hP1 hm1 c0 lu hv H
    obtain ⟨-, -, -, c3, -, -, -, lu⟩ := H1.out.cells
    have f3 := H1.out.obj.frozen 3
    rw [← HU.out] at c3 lu f3
    have QQ := Lib.hid H1.out.qu
    have hbl := HBG.out
    have hle : k.B ≤ w1.heap.size := by have := H1.out.bu; have := H1.out.obj.lt; omega
    generalize hlv : s.lv = lv at *
    go_wp2_with (at_builtin; refine wpList_qu_app1 (y := .int .i64 (v : Nat)) rfl slI infoI rfl QQ.out rfl (by rw [nis_len]; unfold maxLen; omega) (by rw [nis_len]; omega) hle rfl rfl rfl rfl ?_; intro v2 w2 hq2 hm2 ho2; obtain ⟨a2, q2, hv2, -⟩ := hq2.form; subst hv2; have ho2' := H1.out.obj.mod hm2 (H1.out.qu.ne H1.out.obj (by decide)); rw [← HU.out] at ho2'; have lu2 := ho2'.lt; have f32 := ho2'.frozen 3; have c32 := ho2'.cell 3; clear ho2'; have HQ2 := Lib.hid hq2; have HM2 := Lib.hid hm2; have HO2 := Lib.hid ho2; clear hq2 hm2 ho2)
    obtain ⟨HP2, hmA⟩ := H1.out.push (v2 := .slice a2 ((nis s.l).length + 1) q2) (l2 := s.l ++ [v]) HM2.out (by have := HQ2.out; simpa only [nis, List.map_append, List.map_cons, List.map_nil, List.length_append, List.length_cons, List.length_nil, Nat.zero_add] using this) (by have := HBG.out; simp only [List.length_append, List.length_singleton]; omega)
    rw [← HU.out] at HP2 hmA
    go_ret2
    refine ⟨v, Nat.le_of_lt HE.out.1, HE.out.2.1, .inr ⟨HE.out.1, HE.out.2.2, rfl, plv, psv, _, HP2, HM1.out.trans ?_, ?_⟩⟩
    · subst hlv
      exact hmA
    · subst hlv
      rcases HO2.out with e | ⟨q, e, h2⟩
      · rw [List.length_append] at e
        exact .inl e
      · rw [List.length_append] at e
        exact .inr ⟨q, e, Nat.le_trans HM1.out.size h2⟩
end
end Go.Proofs.Ytgjecemmejaieaa

/-
  An update: Go.
-/
namespace Go.Proofs.Ytgjecemmejaieaa
open Go.RowKit Go.Shelf
section
variable {w w' : World} {c : Cf} {k : Uk} {s : Us}
theorem ugo_busy (h : Up w c k s) (f n : Int) (hc : canB s f = false) : Calls Try.prog 12 #[.pointer (some ⟨k.u, 0, none⟩), .int .i64 f, .int .i64 n] w fun e w' => e = .returned (.tuple #[.int .i64 0, .int .i64 0, .int .i64 5]) ∧ w' = w := by
  have H := Lib.hid h
  have HC := Lib.hid hc
  clear h hc
  go_enter Try.func12, Try.ntmps12
  go_wp2_with fail
  refine (ucan_any H.out f).mono ?_
  rintro e w1 ⟨rfl, rfl⟩
  rw [HC.out]
  go_wp2_with fail
  exact bodyPost_ret (v := .tuple #[.int .i64 0, .int .i64 0, .int .i64 5]) (by simp [results, Try.results12]) rfl ⟨rfl, rfl⟩
set_option maxRecDepth 100000 in
set_option maxHeartbeats 4000000 in
/-- It begins. -/
theorem ugo_still (h : Up w c k s) (f n : Int) (v : Nat) (r : List Nat) (hst : s.st = 0) (hl : s.l = v :: r) : Calls Try.prog 12 #[.pointer (some ⟨k.u, 0, none⟩), .int .i64 f, .int .i64 n] w fun e w' =>
    e = .returned (.tuple #[.int .i64 0, .int .i64 0, .int .i64 0]) ∧ (∃ lv', Up w' c k { s with st := 1, lv := lv', l := r, work := v, mark := n } ∧ lv'.ownBlock = s.lv.ownBlock) ∧ Mod (fun g => g = k.u) w w' := by
  have H := Lib.hid h
  have HC := Lib.hid (show canB s f = true by unfold canB; rw [if_pos hst, hl]; simp)
  have HST := Lib.hid hst
  have HL := Lib.hid hl
  obtain ⟨u, hu⟩ : ∃ u, u = k.u := ⟨_, rfl⟩
  rw [← hu]
  have HU := Lib.hid hu
  clear h hst hl hu
  go_enter Try.func12, Try.ntmps12
  go_wp2_with fail
  have hcan := ucan_any H.out f
  rw [← HU.out] at hcan
  refine hcan.mono ?_
  rintro e w1 ⟨rfl, rfl⟩
  rw [HC.out]
  clear hcan
  obtain ⟨-, -, c2, c3, c4, -, c6, lu⟩ := H.out.cells
  have f6 := H.out.obj.frozen 6
  rw [← HU.out] at c2 c3 c4 c6 lu f6
  rw [HST.out] at c2
  obtain ⟨H1, hm1⟩ := H.out.put (s' := { s with mark := n }) 6 (.int .i64 n) rfl rfl rfl H.out.qu H.out.big
  rw [← HU.out] at H1 hm1
  have H1 := Lib.hid H1
  have HM1 := Lib.hid hm1
  clear hm1
  go_upto_region 4 with fail
  clear c2 c3 c4 c6 lu f6 H
  generalize w1.setCell ⟨u, 6, none⟩ (.int .i64 n) = W1 at *
  obtain ⟨-, -, c2, c3, c4, -, -, lu⟩ := H1.out.cells
  rw [← HU.out] at c2 c3 c4 lu
  simp only [HST.out] at c2
  have hq := H1.out.qu
  simp only [HL.out] at hq c3
  obtain ⟨a, q, hv, hlq⟩ := hq.form
  rw [nis_len] at hv hlq
  obtain ⟨g, o, hao, hge, hlt, hcell⟩ := (show Qu 3 W1 k.B (.slice a (v :: r).length q) (nis (v :: r)) by rw [← hv]; exact hq).cell (i := 0) (x := .int .i64 (v : Nat)) rfl
  subst hao
  rw [Nat.add_zero] at hcell
  rw [hv] at c3
  have HQ := Lib.hid (show Qu 3 W1.drew k.B (.slice (if q = 1 then some ⟨g, o, none⟩ else some ⟨g, o + 1, none⟩) ((v :: r).length - 1) (q - 1)) (nis r) by
    have := (hv ▸ hq).drew.tail
    exact this)
  have hown := congrArg Value.ownBlock hv
  have hgu : ¬ g = u := fun e => hq.ne H1.out.obj (by decide) (by rw [hown, e, HU.out]; rfl)
  have HOWN := Lib.hid hown
  have HA := Lib.hid (show (Value.slice (if q = 1 then some ⟨g, o, none⟩ else some ⟨g, o + 1, none⟩) ((v :: r).length - 1) (q - 1)).ownBlock = s.lv.ownBlock by rw [hown]; split <;> rfl)
  simp only [List.length_cons] at c3 hlq HQ HA
  clear hq hv hown hge
  generalize hz : s.lv = lv0 at *
  have hn1 : (1 : Int) ≤ ((r.length + 1 : Nat) : Int) := by omega
  have hn0 : (0 : Int) < ((r.length + 1 : Nat) : Int) := by omega
  generalize hm : r.length + 1 = m at *
  have hn2 : 0 < m := by omega
  have hzz : ((0 : Nat) : Int) = 0 := rfl
  go_wp2_with fail
  refine region_sq_till (fun b => b = u) [(0, true), (1, true), (2, true), (3, true), (4, true), (8, true), (9, true), (10, true)] 11 (by kernel_rfl) (by kernel_rfl) (fun _ _ d _ _ h => by cases d <;> exact h) ?_
  repeat (first
    | (refine sq_yes rfl (by rfl) (fun w' hM => by ((try replace hM := hM.of_drew); obtain ⟨hR1, hR2, hR3⟩ := hM.rules; have hA := hM.agg; obtain ⟨hA1, hA2⟩ := hA; clear hM; go_simp; with_reducible rfl)) ?_; simp only [Act.put, List.setIfInBounds_toArray, List.set_cons_zero, List.set_cons_succ])
    | (refine sq_no rfl (by rfl) ?_; simp only [Act.put, List.setIfInBounds_toArray, List.set_cons_zero, List.set_cons_succ]))
  replace HM1 := Lib.hid (HM1.out.drew)
  replace H1 := Lib.hid (H1.out.drew)
  replace c2 : W1.drew.cell? ⟨u, 2, none⟩ = some (.int .i64 ((0 : Nat) : Int)) := c2
  replace c3 : W1.drew.cell? ⟨u, 3, none⟩ = some (.slice (some ⟨g, o, none⟩) m q) := c3
  replace hcell : W1.drew.cell? ⟨g, o, none⟩ = some (.int .i64 (v : Nat)) := hcell
  replace lu : u < W1.drew.heap.size := lu
  replace hlt : g < W1.drew.heap.size := hlt
  clear c4
  generalize W1.drew = Wd at *
  refine sq_end ?_
  refine any_two (n := 10) 5 11 (by kernel_rfl) ?_ ?_
  · refine sq_do_yes rfl (by rfl) (fun K_ hK_ => ?_)
    go_wp2_with fail
    refine ⟨Mod.refl _ _, ?_⟩
    refine sq_end ?_
    refine any_sq (n := 0) [(6, true), (7, true), (11, false), (12, true), (13, true), (14, true), (15, false), (16, true), (17, true), (18, false)] (by kernel_rfl) (fun _ _ d _ _ h => by cases d <;> exact h) ?_
    repeat (first
      | (refine sq_yes rfl (by rfl) (fun w' hM => by ((try replace hM := hM.of_drew); obtain ⟨hR1, hR2, hR3⟩ := hM.rules; have hA := hM.agg; obtain ⟨hA1, hA2⟩ := hA; clear hM; go_simp; with_reducible rfl)) ?_; simp only [Act.put, List.setIfInBounds_toArray, List.set_cons_zero, List.set_cons_succ])
      | (refine sq_no rfl (by rfl) ?_; simp only [Act.put, List.setIfInBounds_toArray, List.set_cons_zero, List.set_cons_succ]))
    refine sq_do_yes rfl (by rfl) (fun K_ hK_ => ?_)
    go_wp2_with fail
    refine ⟨Mod.refl _ _, ?_⟩
    repeat (first
      | (refine sq_yes rfl (by rfl) (fun w' hM => by ((try replace hM := hM.of_drew); obtain ⟨hR1, hR2, hR3⟩ := hM.rules; have hA := hM.agg; obtain ⟨hA1, hA2⟩ := hA; clear hM; go_simp; with_reducible rfl)) ?_; simp only [Act.put, List.setIfInBounds_toArray, List.set_cons_zero, List.set_cons_succ])
      | (refine sq_no rfl (by rfl) ?_; simp only [Act.put, List.setIfInBounds_toArray, List.set_cons_zero, List.set_cons_succ]))
    generalize (if q = 1 then some (⟨g, o, none⟩ : Addr) else some ⟨g, o + 1, none⟩) = a1 at HQ HA ⊢
    obtain ⟨H2, hm2⟩ := H1.out.put (s' := ⟨s.d, s.ws, s.st, lv0, s.l, v, s.old, n⟩) 4 (.int .i64 (v : Nat)) rfl rfl rfl H1.out.qu H1.out.big
    have f4 := H1.out.obj.frozen 4
    obtain ⟨-, -, -, -, c4, -, -, -⟩ := H1.out.cells
    have HQ2 := Lib.hid (HQ.out.mod hm2 fun g' hg' e => HQ.out.ne2 hg' H1.out.obj (by decide) e)
    rw [← HU.out] at H2 hm2 f4 HQ2 c4
    have HMa := Lib.hid hm2
    clear hm2
    refine sq_do_yes rfl (by rfl) (fun K_ hK_ => ?_)
    go_wp2_with fail
    refine ⟨HMa.out, ?_⟩
    have H2 := Lib.hid H2
    have HM2 := Lib.hid (HM1.out.trans HMa.out)
    clear f4 c4 HMa H1 HQ HM1 hcell c2 c3 lu hlt
    generalize Wd.setCell ⟨u, 4, none⟩ (.int .i64 (v : Nat)) = W2 at *
    obtain ⟨-, -, -, c3, -, -, -, lu⟩ := H2.out.cells
    have f3 := H2.out.obj.frozen 3
    rw [← HU.out] at lu f3 c3
    obtain ⟨H3, hm3⟩ := H2.out.put (s' := ⟨s.d, s.ws, s.st, .slice a1 (m - 1) (q - 1), r, v, s.old, n⟩) 3 (.slice a1 (m - 1) (q - 1)) rfl rfl rfl HQ2.out (by have := H2.out.big; simp only [HL.out, List.length_cons] at this; exact Nat.le_of_succ_le this)
    rw [← HU.out] at H3 hm3
    have HMb := Lib.hid hm3
    clear hm3
    have H3 := Lib.hid H3
    repeat (first
      | (refine sq_yes rfl (by rfl) (fun w' hM => by ((try replace hM := hM.of_drew); obtain ⟨hR1, hR2, hR3⟩ := hM.rules; have hA := hM.agg; obtain ⟨hA1, hA2⟩ := hA; clear hM; go_simp; with_reducible rfl)) ?_; simp only [Act.put, List.setIfInBounds_toArray, List.set_cons_zero, List.set_cons_succ])
      | (refine sq_no rfl (by rfl) ?_; simp only [Act.put, List.setIfInBounds_toArray, List.set_cons_zero, List.set_cons_succ]))
    refine sq_do_yes rfl (by rfl) (fun K_ hK_ => ?_)
    go_wp2_with fail
    refine ⟨HMb.out, ?_⟩
    have HM3 := Lib.hid (HM2.out.trans HMb.out)
    clear HMb HM2 H2 HQ2 lu f3 c3
    refine sq_end ?_
    refine any_end (by kernel_rfl) ?_
    generalize W2.setCell ⟨u, 3, none⟩ (.slice a1 (m - 1) (q - 1)) = W3 at *
    obtain ⟨-, -, c2, -, -, -, -, lu⟩ := H3.out.cells
    have f2 := H3.out.obj.frozen 2
    rw [← HU.out] at lu f2 c2
    obtain ⟨H4, hm4⟩ := H3.out.put (s' := ⟨s.d, s.ws, 1, .slice a1 (m - 1) (q - 1), r, v, s.old, n⟩) 2 (.int .i64 1) rfl rfl rfl H3.out.qu H3.out.big
    rw [← HU.out] at H4 hm4
    have H4 := Lib.hid H4
    have HM4 := Lib.hid (HM3.out.trans hm4)
    clear hm4 HM3 H3
    go_wp2_with fail
    exact bodyPost_ret (v := .tuple #[.int .i64 0, .int .i64 0, .int .i64 0]) (by simp [results, Try.results12]) rfl ⟨rfl, ⟨_, H4.out, HA.out⟩, HM4.out⟩
  · refine sq_do_yes rfl (by rfl) (fun K_ hK_ => ?_)
    go_wp2_with fail
    refine ⟨Mod.refl _ _, ?_⟩
    refine sq_end ?_
    refine any_sq (n := 0) [(12, true), (5, false), (6, true), (7, true), (13, true), (14, true), (15, false), (16, true), (17, true), (18, false)] (by kernel_rfl) (fun _ _ d _ _ h => by cases d <;> exact h) ?_
    repeat (first
      | (refine sq_yes rfl (by rfl) (fun w' hM => by ((try replace hM := hM.of_drew); obtain ⟨hR1, hR2, hR3⟩ := hM.rules; have hA := hM.agg; obtain ⟨hA1, hA2⟩ := hA; clear hM; go_simp; with_reducible rfl)) ?_; simp only [Act.put, List.setIfInBounds_toArray, List.set_cons_zero, List.set_cons_succ])
      | (refine sq_no rfl (by rfl) ?_; simp only [Act.put, List.setIfInBounds_toArray, List.set_cons_zero, List.set_cons_succ]))
    generalize (if q = 1 then some (⟨g, o, none⟩ : Addr) else some ⟨g, o + 1, none⟩) = a1 at HQ HA ⊢
    refine sq_do_yes rfl (by rfl) (fun K_ hK_ => ?_)
    go_wp2_with fail
    refine ⟨Mod.refl _ _, ?_⟩
    repeat (first
      | (refine sq_yes rfl (by rfl) (fun w' hM => by ((try replace hM := hM.of_drew); obtain ⟨hR1, hR2, hR3⟩ := hM.rules; have hA := hM.agg; obtain ⟨hA1, hA2⟩ := hA; clear hM; go_simp; with_reducible rfl)) ?_; simp only [Act.put, List.setIfInBounds_toArray, List.set_cons_zero, List.set_cons_succ])
      | (refine sq_no rfl (by rfl) ?_; simp only [Act.put, List.setIfInBounds_toArray, List.set_cons_zero, List.set_cons_succ]))
    obtain ⟨H2, hm2⟩ := H1.out.put (s' := ⟨s.d, s.ws, s.st, lv0, s.l, v, s.old, n⟩) 4 (.int .i64 (v : Nat)) rfl rfl rfl H1.out.qu H1.out.big
    have f4 := H1.out.obj.frozen 4
    obtain ⟨-, -, -, -, c4, -, -, -⟩ := H1.out.cells
    have HQ2 := Lib.hid (HQ.out.mod hm2 fun g' hg' e => HQ.out.ne2 hg' H1.out.obj (by decide) e)
    rw [← HU.out] at H2 hm2 f4 HQ2 c4
    have HMa := Lib.hid hm2
    clear hm2
    refine sq_do_yes rfl (by rfl) (fun K_ hK_ => ?_)
    go_wp2_with fail
    refine ⟨HMa.out, ?_⟩
    have H2 := Lib.hid H2
    have HM2 := Lib.hid (HM1.out.trans HMa.out)
    clear f4 c4 HMa H1 HQ HM1 hcell c2 c3 lu hlt
    generalize Wd.setCell ⟨u, 4, none⟩ (.int .i64 (v : Nat)) = W2 at *
    obtain ⟨-, -, -, c3, -, -, -, lu⟩ := H2.out.cells
    have f3 := H2.out.obj.frozen 3
    rw [← HU.out] at lu f3 c3
    obtain ⟨H3, hm3⟩ := H2.out.put (s' := ⟨s.d, s.ws, s.st, .slice a1 (m - 1) (q - 1), r, v, s.old, n⟩) 3 (.slice a1 (m - 1) (q - 1)) rfl rfl rfl HQ2.out (by have := H2.out.big; simp only [HL.out, List.length_cons] at this; exact Nat.le_of_succ_le this)
    rw [← HU.out] at H3 hm3
    have HMb := Lib.hid hm3
    clear hm3
    have H3 := Lib.hid H3
    repeat (first
      | (refine sq_yes rfl (by rfl) (fun w' hM => by ((try replace hM := hM.of_drew); obtain ⟨hR1, hR2, hR3⟩ := hM.rules; have hA := hM.agg; obtain ⟨hA1, hA2⟩ := hA; clear hM; go_simp; with_reducible rfl)) ?_; simp only [Act.put, List.setIfInBounds_toArray, List.set_cons_zero, List.set_cons_succ])
      | (refine sq_no rfl (by rfl) ?_; simp only [Act.put, List.setIfInBounds_toArray, List.set_cons_zero, List.set_cons_succ]))
    refine sq_do_yes rfl (by rfl) (fun K_ hK_ => ?_)
    go_wp2_with fail
    refine ⟨HMb.out, ?_⟩
    have HM3 := Lib.hid (HM2.out.trans HMb.out)
    clear HMb HM2 H2 HQ2 lu f3 c3
    refine sq_end ?_
    refine any_end (by kernel_rfl) ?_
    generalize W2.setCell ⟨u, 3, none⟩ (.slice a1 (m - 1) (q - 1)) = W3 at *
    obtain ⟨-, -, c2, -, -, -, -, lu⟩ := H3.out.cells
    have f2 := H3.out.obj.frozen 2
    rw [← HU.out] at lu f2 c2
    obtain ⟨H4, hm4⟩ := H3.out.put (s' := ⟨s.d, s.ws, 1, .slice a1 (m - 1) (q - 1), r, v, s.old, n⟩) 2 (.int .i64 1) rfl rfl rfl H3.out.qu H3.out.big
    rw [← HU.out] at H4 hm4
    have H4 := Lib.hid H4
    have HM4 := Lib.hid (HM3.out.trans hm4)
    clear hm4 HM3 H3
    go_wp2_with fail
    exact bodyPost_ret (v := .tuple #[.int .i64 0, .int .i64 0, .int .i64 0]) (by simp [results, Try.results12]) rfl ⟨rfl, ⟨_, H4.out, HA.out⟩, HM4.out⟩
end
end Go.Proofs.Ytgjecemmejaieaa

/-
  An update: Go, its second and its third step.
-/
namespace Go.Proofs.Ytgjecemmejaieaa
open Go.RowKit Go.Shelf
section
variable {w w' : World} {c : Cf} {k : Uk} {s : Us}
/-- The pool behind the switch. -/
def Pd.served (d : Pd) (v : Nat) (x y : V) : Pd := { d with vs := (d.vs.set d.now { x with refs := x.refs + 1 }).set v { y with res := false }, now := v }
set_option maxRecDepth 100000 in
set_option maxHeartbeats 4000000 in
theorem ugo_rec (h : Up w c k s) (f n : Int) (x y : V) (hst : s.st = 1) (hf : s.mark ≤ f) (hx : s.d.vs[s.d.now]? = some x) (hxr : x.refs < 1000000) (hlx : liveB s.d.vs s.d.now s.d.now = true)
    (hy : s.d.vs[s.work]? = some y) (hyr : y.res = true) (hne : s.work ≠ s.d.now) (hly : liveB (s.d.vs.set s.d.now { x with refs := x.refs + 1 }) s.d.now s.work = true) :
    Calls Try.prog 12 #[.pointer (some ⟨k.u, 0, none⟩), .int .i64 f, .int .i64 n] w fun e w' =>
    e = .returned (.tuple #[.int .i64 5, .int .i64 (s.work : Nat), .int .i64 0]) ∧ Up w' c k { s with d := s.d.served s.work x y, st := 2, old := s.d.now, mark := n } ∧ Mod (UM k s) w w' := by
  have H := Lib.hid h
  have HC := Lib.hid (show canB s f = true by unfold canB; rw [if_neg (by omega)]; simpa using hf)
  have HST := Lib.hid hst
  have HX := Lib.hid (And.intro hx (And.intro hxr hlx))
  have HY := Lib.hid (And.intro (show (s.d.vs.set s.d.now { x with refs := x.refs + 1 })[s.work]? = some y by rw [List.getElem?_set_ne (by omega)]; exact hy) (And.intro hyr hly))
  obtain ⟨cs, hcs⟩ := h.pool.tAt
  have hup : ¬ k.u = s.d.p := fun e => At.ne h.obj h.pool.obj (by decide) e
  have hut : ¬ k.u = s.d.t := fun e => At.ne h.obj hcs (by decide) e
  obtain ⟨u, hu⟩ : ∃ u, u = k.u := ⟨_, rfl⟩
  rw [← hu] at hup hut ⊢
  have HU := Lib.hid hu
  clear h hst hu hx hxr hlx hy hyr hne hly hf hcs
  go_enter Try.func12, Try.ntmps12
  go_wp2_with fail
  have hcan := ucan_any H.out f
  rw [← HU.out] at hcan
  refine hcan.mono ?_
  rintro e w1 ⟨rfl, rfl⟩
  rw [HC.out]
  clear hcan
  obtain ⟨c0, -, c2, -, -, c5, c6, lu⟩ := H.out.cells
  have f6 := H.out.obj.frozen 6
  rw [← HU.out] at c0 c2 c5 c6 lu f6
  obtain ⟨H1, hm1⟩ := H.out.put (s' := ⟨s.d, s.ws, s.st, s.lv, s.l, s.work, s.old, n⟩) 6 (.int .i64 n) rfl rfl rfl H.out.qu H.out.big
  rw [← HU.out] at H1 hm1
  have H1 := Lib.hid H1
  have HM1 := Lib.hid hm1
  clear hm1
  go_upto_region 4 with fail
  clear c0 c2 c5 c6 lu f6 H
  generalize w1.setCell ⟨u, 6, none⟩ (.int .i64 n) = W1 at *
  obtain ⟨c0, -, c2, -, -, c5, -, lu⟩ := H1.out.cells
  have f5 := H1.out.obj.frozen 5
  rw [← HU.out] at c0 c2 c5 lu f5
  simp only [HST.out] at c2
  have hzz : (((1 : Nat) : Int) == 0) = false := rfl
  go_wp2_with fail
  refine (now_any H1.out.pool).mono ?_
  rintro e w2 ⟨rfl, rfl⟩
  obtain ⟨H2, hm2⟩ := H1.out.put (s' := ⟨s.d, s.ws, s.st, s.lv, s.l, s.work, s.d.now, n⟩) 5 (.int .i64 (s.d.now : Nat)) rfl rfl rfl H1.out.qu H1.out.big
  rw [← HU.out] at H2 hm2
  have H2 := Lib.hid H2
  have HM2 := Lib.hid (HM1.out.trans hm2)
  clear hm2
  go_upto_region 11 with fail
  clear c0 c2 c5 lu f5 H1 HM1
  generalize w2.setCell ⟨u, 5, none⟩ (.int .i64 (s.d.now : Nat)) = W2 at *
  obtain ⟨c0, -, -, -, -, c5, -, lu⟩ := H2.out.cells
  rw [← HU.out] at c0 c5 lu
  refine region_sq (fun g => g = s.d.p ∨ g = s.d.t) [(0, true), (1, true), (2, true), (3, true), (4, true), (5, true), (6, true), (7, true), (8, false)] (by kernel_rfl) (by kernel_rfl) (fun _ _ d _ _ h => by cases d <;> exact h) ?_
  repeat (first
    | (refine sq_yes rfl (by rfl) (fun w' hM => by ((try replace hM := hM.of_drew); obtain ⟨hR1, hR2, hR3⟩ := hM.rules; have hA := hM.agg; obtain ⟨hA1, hA2⟩ := hA; clear hM; go_simp; with_reducible rfl)) ?_; simp only [Act.put, List.setIfInBounds_toArray, List.set_cons_zero, List.set_cons_succ])
    | (refine sq_no rfl (by rfl) ?_; simp only [Act.put, List.setIfInBounds_toArray, List.set_cons_zero, List.set_cons_succ]))
  clear c0 c5 lu
  replace H2 := Lib.hid H2.out.drew
  replace HM2 := Lib.hid HM2.out.drew
  generalize W2.drew = W3 at *
  refine sq_do_yes rfl (by rfl) (fun K_ hK_ => ?_)
  go_wp2_with fail
  refine (ref_yes H2.out.pool s.d.now x HX.out.1 HX.out.2.2 HX.out.2.1).mono ?_
  rintro e w4 ⟨rfl, hP, hm⟩
  have H4 := Lib.hid (H2.out.act (d' := { s.d with vs := s.d.vs.set s.d.now { x with refs := x.refs + 1 } }) hP rfl rfl rfl hm)
  have HM4 := Lib.hid (HM2.out.mono (fun g _ hg => (.inl (HU.out ▸ hg) : UM k s g)) |>.trans (Md.um (k := k) (s := s) (d := s.d) hm rfl))
  have HMa := Lib.hid hm
  clear hm hP H2 HM2
  go_wp2_with fail
  refine ⟨HMa.out, ?_⟩
  refine sq_end ?_
  clear HMa
  obtain ⟨c0, -, -, -, c4, -, -, lu⟩ := H4.out.cells
  rw [← HU.out] at c0 c4 lu
  go_upto_region 12 with fail
  refine region_sq (fun g => g = s.d.p ∨ g = s.d.t) [(0, true), (1, true), (2, true), (3, true), (4, true), (5, true), (6, true), (7, true), (8, false)] (by kernel_rfl) (by kernel_rfl) (fun _ _ d _ _ h => by cases d <;> exact h) ?_
  repeat (first
    | (refine sq_yes rfl (by rfl) (fun w' hM => by ((try replace hM := hM.of_drew); obtain ⟨hR1, hR2, hR3⟩ := hM.rules; have hA := hM.agg; obtain ⟨hA1, hA2⟩ := hA; clear hM; go_simp; with_reducible rfl)) ?_; simp only [Act.put, List.setIfInBounds_toArray, List.set_cons_zero, List.set_cons_succ])
    | (refine sq_no rfl (by rfl) ?_; simp only [Act.put, List.setIfInBounds_toArray, List.set_cons_zero, List.set_cons_succ]))
  clear c0 c4 lu
  replace H4 := Lib.hid H4.out.drew
  replace HM4 := Lib.hid HM4.out.drew
  generalize w4.drew = W5 at *
  refine sq_do_yes rfl (by rfl) (fun K_ hK_ => ?_)
  go_wp2_with fail
  refine (serve_any H4.out.pool s.work y HY.out.1 HY.out.2.2).mono ?_
  rintro e w6 (⟨h, _⟩ | ⟨_, rfl, hP, hm⟩)
  · rw [HY.out.2.1] at h
    exact absurd h (by decide)
  have H6 := Lib.hid (H4.out.act (d' := s.d.served s.work x y) hP rfl rfl rfl hm)
  have HM6 := Lib.hid (HM4.out.trans (Md.um (k := k) (s := s) (d := s.d) hm rfl))
  have HMa := Lib.hid hm
  clear hm hP H4 HM4
  go_wp2_with fail
  refine ⟨HMa.out, ?_⟩
  refine sq_end ?_
  clear HMa
  obtain ⟨-, -, c2, -, -, -, -, lu⟩ := H6.out.cells
  have f2 := H6.out.obj.frozen 2
  rw [← HU.out] at c2 lu f2
  obtain ⟨H7, hm7⟩ := H6.out.put (s' := ⟨s.d.served s.work x y, s.ws, 2, s.lv, s.l, s.work, s.d.now, n⟩) 2 (.int .i64 2) rfl rfl rfl H6.out.qu H6.out.big
  rw [← HU.out] at H7 hm7
  have H7 := Lib.hid H7
  have HM7 := Lib.hid (HM6.out.trans (hm7.mono (fun g _ hg => (.inl (HU.out ▸ hg) : UM k s g))))
  clear hm7 H6 HM6
  go_upto_region 14 with fail
  clear c2 lu f2
  generalize w6.setCell ⟨u, 2, none⟩ (.int .i64 2) = W7 at *
  obtain ⟨-, -, -, -, c4, -, -, lu⟩ := H7.out.cells
  rw [← HU.out] at c4 lu
  refine region_sq (fun _ => False) [(0, true), (1, true), (2, true), (3, true), (4, true), (5, true), (6, true)] (by kernel_rfl) (by kernel_rfl) (fun _ _ d _ _ h => by cases d <;> exact h) ?_
  repeat (first
    | (refine sq_yes rfl (by rfl) (fun w' hM => by ((try replace hM := hM.of_drew); obtain ⟨hR1, hR2, hR3⟩ := hM.rules; have hA := hM.agg; obtain ⟨hA1, hA2⟩ := hA; clear hM; go_simp; with_reducible rfl)) ?_; simp only [Act.put, List.setIfInBounds_toArray, List.set_cons_zero, List.set_cons_succ])
    | (refine sq_no rfl (by rfl) ?_; simp only [Act.put, List.setIfInBounds_toArray, List.set_cons_zero, List.set_cons_succ]))
  refine sq_end ?_
  clear c4 lu
  replace H7 := Lib.hid H7.out.drew
  replace HM7 := Lib.hid HM7.out.drew
  generalize W7.drew = W8 at *
  go_wp2_with fail
  exact bodyPost_ret (v := .tuple #[.int .i64 5, .int .i64 (s.work : Nat), .int .i64 0]) (by simp [results, Try.results12]) rfl ⟨rfl, H7.out, HM7.out⟩
/-- The pool behind the end. -/
def Pd.freed (d : Pd) (v : Nat) (x : V) : Pd := { d with vs := d.vs.set v { x with refs := x.refs - 1 } }
set_option maxRecDepth 100000 in
set_option maxHeartbeats 4000000 in
theorem ugo_end (h : Up w c k s) (f n : Int) (x : V) (hst : s.st = 2) (hf : s.mark ≤ f) (hx : s.d.vs[s.old]? = some x) (hxr : x.refs < 1000000) (hxp : 0 < x.refs) (hlx : liveB s.d.vs s.d.now s.old = true) :
    Calls Try.prog 12 #[.pointer (some ⟨k.u, 0, none⟩), .int .i64 f, .int .i64 n] w fun e w' =>
    e = .returned (.tuple #[.int .i64 6, .int .i64 (s.work : Nat), .int .i64 0]) ∧ Up w' c k { s with ws := List.replicate (nw k.N) 0, d := s.d.freed s.old x, st := 0, mark := n } ∧ Mod (UM k s) w w' := by
  have H := Lib.hid h
  have HC := Lib.hid (show canB s f = true by unfold canB; rw [if_neg (by omega)]; simpa using hf)
  have HST := Lib.hid hst
  have HX := Lib.hid (And.intro hx (And.intro hxr (And.intro hxp hlx)))
  obtain ⟨cs, hcs⟩ := h.pool.tAt
  have hup : ¬ k.u = s.d.p := fun e => At.ne h.obj h.pool.obj (by decide) e
  have hut : ¬ k.u = s.d.t := fun e => At.ne h.obj hcs (by decide) e
  obtain ⟨u, hu⟩ : ∃ u, u = k.u := ⟨_, rfl⟩
  rw [← hu] at hup hut ⊢
  have HU := Lib.hid hu
  clear h hst hu hx hxr hlx hxp hf hcs
  go_enter Try.func12, Try.ntmps12
  go_wp2_with fail
  have hcan := ucan_any H.out f
  rw [← HU.out] at hcan
  refine hcan.mono ?_
  rintro e w1 ⟨rfl, rfl⟩
  rw [HC.out]
  clear hcan
  obtain ⟨-, -, c2, -, -, -, c6, lu⟩ := H.out.cells
  have f6 := H.out.obj.frozen 6
  rw [← HU.out] at c2 c6 lu f6
  obtain ⟨H1, hm1⟩ := H.out.put (s' := ⟨s.d, s.ws, s.st, s.lv, s.l, s.work, s.old, n⟩) 6 (.int .i64 n) rfl rfl rfl H.out.qu H.out.big
  rw [← HU.out] at H1 hm1
  have H1 := Lib.hid H1
  have HM1 := Lib.hid hm1
  clear hm1
  go_upto_region 4 with fail
  clear c2 c6 lu f6 H
  generalize w1.setCell ⟨u, 6, none⟩ (.int .i64 n) = W1 at *
  obtain ⟨-, c1, c2, -, -, -, -, lu⟩ := H1.out.cells
  rw [← HU.out] at c1 c2 lu
  simp only [HST.out] at c2
  have hzz : (((2 : Nat) : Int) == 0) = false := rfl
  have hz1 : (((2 : Nat) : Int) == 1) = false := rfl
  go_wp2_with fail
  refine (clear_any k.gb k.gw k.gf k.N (nw k.N) s.ws _ H1.out.flt H1.out.wds H1.out.hl (by have := H1.out.hN; unfold nw; omega)).mono ?_
  rintro e w2 ⟨⟨v, rfl⟩, hw, hm⟩
  have H2 := Lib.hid (H1.out.words hm hw (by simp) (by intro x hx; rw [(List.mem_replicate.1 hx).2]; omega))
  have HM2 := Lib.hid ((HM1.out.mono (fun g _ hg => (.inl (HU.out ▸ hg) : UM k s g))).trans (hm.mono (fun g _ hg => (.inr (.inr (.inr (.inl hg))) : UM k s g))))
  clear hm hw c1 c2 lu H1 HM1
  go_upto_region 16 with fail
  obtain ⟨c0, -, -, -, -, c5, -, lu⟩ := H2.out.cells
  rw [← HU.out] at c0 c5 lu
  refine region_sq (fun g => g = s.d.p ∨ g = s.d.t) [(0, true), (1, true), (2, true), (3, true), (4, true), (5, true), (6, true), (7, true), (8, false)] (by kernel_rfl) (by kernel_rfl) (fun _ _ d _ _ h => by cases d <;> exact h) ?_
  repeat (first
    | (refine sq_yes rfl (by rfl) (fun w' hM => by ((try replace hM := hM.of_drew); obtain ⟨hR1, hR2, hR3⟩ := hM.rules; have hA := hM.agg; obtain ⟨hA1, hA2⟩ := hA; clear hM; go_simp; with_reducible rfl)) ?_; simp only [Act.put, List.setIfInBounds_toArray, List.set_cons_zero, List.set_cons_succ])
    | (refine sq_no rfl (by rfl) ?_; simp only [Act.put, List.setIfInBounds_toArray, List.set_cons_zero, List.set_cons_succ]))
  clear c0 c5 lu
  replace H2 := Lib.hid H2.out.drew
  replace HM2 := Lib.hid HM2.out.drew
  generalize w2.drew = W3 at *
  refine sq_do_yes rfl (by rfl) (fun K_ hK_ => ?_)
  go_wp2_with fail
  refine (unref_any H2.out.pool s.old x HX.out.1 HX.out.2.2.2 HX.out.2.1).mono ?_
  rintro e w4 (⟨h, _⟩ | ⟨_, rfl, hP, hm⟩)
  · have := HX.out.2.2.1
    omega
  have H4 := Lib.hid (H2.out.act (d' := s.d.freed s.old x) hP rfl rfl rfl hm)
  have HM4 := Lib.hid (HM2.out.trans (Md.um (k := k) (s := s) (d := s.d) hm rfl))
  have HMa := Lib.hid hm
  clear hm hP H2 HM2
  go_wp2_with fail
  refine ⟨HMa.out, ?_⟩
  refine sq_end ?_
  clear HMa
  obtain ⟨-, -, c2, -, -, -, -, lu⟩ := H4.out.cells
  have f2 := H4.out.obj.frozen 2
  rw [← HU.out] at c2 lu f2
  obtain ⟨H7, hm7⟩ := H4.out.put (s' := ⟨s.d.freed s.old x, List.replicate (nw k.N) 0, 0, s.lv, s.l, s.work, s.old, n⟩) 2 (.int .i64 0) rfl rfl rfl H4.out.qu H4.out.big
  rw [← HU.out] at H7 hm7
  have H7 := Lib.hid H7
  have HM7 := Lib.hid (HM4.out.trans (hm7.mono (fun g _ hg => (.inl (HU.out ▸ hg) : UM k s g))))
  clear hm7 H4 HM4
  go_upto_region 18 with fail
  clear c2 lu f2
  generalize w4.setCell ⟨u, 2, none⟩ (.int .i64 0) = W7 at *
  obtain ⟨-, -, -, -, c4, -, -, lu⟩ := H7.out.cells
  rw [← HU.out] at c4 lu
  refine region_sq (fun _ => False) [(0, true), (1, true), (2, true), (3, true), (4, true), (5, true), (6, true)] (by kernel_rfl) (by kernel_rfl) (fun _ _ d _ _ h => by cases d <;> exact h) ?_
  repeat (first
    | (refine sq_yes rfl (by rfl) (fun w' hM => by ((try replace hM := hM.of_drew); obtain ⟨hR1, hR2, hR3⟩ := hM.rules; have hA := hM.agg; obtain ⟨hA1, hA2⟩ := hA; clear hM; go_simp; with_reducible rfl)) ?_; simp only [Act.put, List.setIfInBounds_toArray, List.set_cons_zero, List.set_cons_succ])
    | (refine sq_no rfl (by rfl) ?_; simp only [Act.put, List.setIfInBounds_toArray, List.set_cons_zero, List.set_cons_succ]))
  refine sq_end ?_
  clear c4 lu
  replace H7 := Lib.hid H7.out.drew
  replace HM7 := Lib.hid HM7.out.drew
  generalize W7.drew = W8 at *
  go_wp2_with fail
  exact bodyPost_ret (v := .tuple #[.int .i64 6, .int .i64 (s.work : Nat), .int .i64 0]) (by simp [results, Try.results12]) rfl ⟨rfl, H7.out, HM7.out⟩
end
end Go.Proofs.Ytgjecemmejaieaa

/-
  An update: Version, Waiting, Last.
-/
namespace Go.Proofs.Ytgjecemmejaieaa
open Go.RowKit Go.Shelf
section
variable {w w' : World} {c : Cf} {k : Uk} {s : Us}
theorem uver_still (h : Up w c k s) (q : Ky) (b : Bool) (hst : s.st = 0) : Calls Try.prog 14 #[.pointer (some ⟨k.u, 0, none⟩), .agg (kc q), .bool b] w fun e w' => e = .returned (.tuple #[.int .i64 (s.d.now : Nat), .bool false]) ∧ Below w.heap.size w w' := by
  have H := Lib.hid (h.alloc (.cells (kc q) 57))
  have HST := Lib.hid hst
  have HB := Lib.hid ((Below.refl w.heap.size w).alloc (Nat.le_refl _) (.cells (kc q) 57))
  obtain ⟨u, hu⟩ : ∃ u, u = k.u := ⟨_, rfl⟩
  rw [← hu]
  have HU := Lib.hid hu
  clear h hst hu
  go_enter Try.func14, Try.ntmps14
  go_upto_region 1 with fail
  generalize w.alloc (.cells (kc q) 57) = W1 at *
  obtain ⟨c0, -, c2, -, -, -, -, lu⟩ := H.out.cells
  rw [← HU.out] at c0 c2 lu
  rw [HST.out] at c2
  have hz1 : (((0 : Nat) : Int) == 1) = false := rfl
  have hz2 : (((0 : Nat) : Int) == 2) = false := rfl
  go_wp2_with fail
  refine (now_any H.out.pool).mono ?_
  rintro e w2 ⟨rfl, rfl⟩
  go_wp2_with fail
  exact bodyPost_ret (v := .tuple #[.int .i64 (s.d.now : Nat), .bool false]) (by simp [results, Try.results14]) rfl ⟨rfl, HB.out⟩
set_option maxRecDepth 100000 in
set_option maxHeartbeats 4000000 in
theorem uver_rec (h : Up w c k s) (q : Ky) (b : Bool) (x : V) (hst : s.st = 1) (hx : s.d.vs[s.d.now]? = some x) (hlx : liveB s.d.vs s.d.now s.d.now = true) (hxl : x.S.length ≤ 64) :
    Calls Try.prog 14 #[.pointer (some ⟨k.u, 0, none⟩), .agg (kc q), .bool b] w fun e w' => e = .returned (.tuple #[.int .i64 (s.d.now : Nat), .bool false]) ∧
      Up w' c k { s with ws := if 0 < x.S.length then insAll s.ws (pN c q k.N) else s.ws } ∧ Mod (UM k s) w w' := by
  have H := Lib.hid (h.alloc (.cells (kc q) 57))
  have HST := Lib.hid hst
  have HX := Lib.hid (And.intro hx (And.intro hlx hxl))
  have HB := Lib.hid ((Mod.refl (UM k s) w).alloc (.cells (kc q) 57))
  obtain ⟨u, hu⟩ : ∃ u, u = k.u := ⟨_, rfl⟩
  have hug : ¬ k.u = k.gw := fun e => At.ne h.obj h.wds (by decide) e
  rw [← hu] at hug ⊢
  have HU := Lib.hid hu
  obtain ⟨g, hg⟩ : ∃ g, g = w.heap.size := ⟨_, rfl⟩
  have HK := Lib.hid (at_new w 57 (kc q) g hg)
  have hgg : ¬ g = k.gw := by have := h.wds.lt; omega
  obtain ⟨R, hR⟩ : ∃ R, R = (if 0 < x.S.length then insAll s.ws (pN c q k.N) else s.ws) := ⟨_, rfl⟩
  rw [← hR]
  have HR := Lib.hid hR
  clear h hst hu hx hlx hxl hR
  go_enter Try.func14, Try.ntmps14
  go_upto_region 1 with fail
  rw [← hg]
  clear hg
  generalize w.alloc (.cells (kc q) 57) = W1 at *
  obtain ⟨c0, -, c2, -, -, -, -, lu⟩ := H.out.cells
  rw [← HU.out] at c0 c2 lu
  rw [HST.out] at c2
  have hz1 : (((1 : Nat) : Int) == 1) = true := rfl
  have hz2 : (((1 : Nat) : Int) == 2) = false := rfl
  go_wp2_with fail
  refine (now_any H.out.pool).mono ?_
  rintro e w2 ⟨rfl, rfl⟩
  go_wp2_with fail
  refine (slots_any H.out.pool s.d.now x HX.out.1 HX.out.2.1 HX.out.2.2).mono ?_
  rintro e w3 ⟨sv, rfl, hs, hb⟩
  replace H := Lib.hid (H.out.below hb)
  replace HB := Lib.hid (HB.out.trans (Mod.of_below hb))
  replace HK := Lib.hid (HK.out.below hb HK.out.lt)
  obtain ⟨a3, c3, rfl⟩ := hs.form
  clear hs hb c0 c2 lu
  by_cases h0 : 0 < x.S.length
  · rw [if_pos h0] at HR
    have h0z : (0 : Int) < (x.S.length : Int) := by omega
    generalize x.S.length = L at *
    obtain ⟨-, c1, -, -, -, -, -, lu⟩ := H.out.cells
    rw [← HU.out] at c1 lu
    go_upto_region 7 with fail
    have r4 := HK.out.row
    have o4 := HK.out.open
    have l4 := HK.out.lt
    refine region_sq (fun i => i = k.gw) [(0, true), (1, true), (2, true), (3, true), (4, true), (5, false)] (by kernel_rfl) (by kernel_rfl) (fun _ _ d _ _ h => by cases d <;> exact h) ?_
    repeat (first
      | (refine sq_yes rfl (by rfl) (fun w' hM => by ((try replace hM := hM.of_drew); obtain ⟨hR1, hR2, hR3⟩ := hM.rules; have hA := hM.agg; obtain ⟨hA1, hA2⟩ := hA; clear hM; go_simp; with_reducible rfl)) ?_; simp only [Act.put, List.setIfInBounds_toArray, List.set_cons_zero, List.set_cons_succ])
      | (refine sq_no rfl (by rfl) ?_; simp only [Act.put, List.setIfInBounds_toArray, List.set_cons_zero, List.set_cons_succ]))
    clear c1 lu r4 o4 l4 HK
    replace H := Lib.hid H.out.drew
    replace HB := Lib.hid HB.out.drew
    generalize w3.drew = W4 at *
    refine sq_do_yes rfl (by rfl) (fun K_ hK_ => ?_)
    go_wp2_with fail
    refine (insert_any k.gb k.gw k.gf c q k.N (nw k.N) s.ws _ H.out.flt H.out.wds H.out.fam (At.ne H.out.flt H.out.wds (by decide)) H.out.hN H.out.hN2 rfl H.out.hl H.out.hx H.out.h1 H.out.h2 H.out.hb1).mono ?_
    rintro e w5 ⟨rfl, hw, hm⟩
    have H5 := Lib.hid (H.out.words hm hw (by rw [insAll_length]; exact H.out.hl) (insAll_lt _ _ H.out.hx))
    have HB5 := Lib.hid (HB.out.trans (hm.mono (fun g _ hg => (.inr (.inr (.inr (.inl hg))) : UM k s g))))
    have HMa := Lib.hid hm
    clear hm hw H HB
    go_wp2_with fail
    refine ⟨HMa.out, ?_⟩
    refine sq_end ?_
    go_wp2_with fail
    exact bodyPost_ret (v := .tuple #[.int .i64 (s.d.now : Nat), .bool false]) (by simp [results, Try.results14]) rfl ⟨rfl, by rw [HR.out]; exact H5.out, HB5.out⟩
  · rw [if_neg h0] at HR
    have h0z : x.S.length = 0 := by omega
    rw [h0z]
    go_wp2_with fail
    exact bodyPost_ret (v := .tuple #[.int .i64 (s.d.now : Nat), .bool false]) (by simp [results, Try.results14]) rfl ⟨rfl, by rw [HR.out]; exact H.out, HB.out⟩
set_option maxRecDepth 100000 in
set_option maxHeartbeats 4000000 in
theorem uver_sw (h : Up w c k s) (q : Ky) (b : Bool) (hst : s.st = 2) :
    Calls Try.prog 14 #[.pointer (some ⟨k.u, 0, none⟩), .agg (kc q), .bool b] w fun e w' => e = .returned (if hasB s.ws (pN c q k.N) then .tuple #[.int .i64 (s.old : Nat), .bool (!b)] else .tuple #[.int .i64 (s.d.now : Nat), .bool false]) ∧ Below w.heap.size w w' := by
  have H := Lib.hid (h.alloc (.cells (kc q) 57))
  have HST := Lib.hid hst
  have HB := Lib.hid ((Below.refl w.heap.size w).alloc (Nat.le_refl _) (.cells (kc q) 57))
  obtain ⟨u, hu⟩ : ∃ u, u = k.u := ⟨_, rfl⟩
  rw [← hu]
  have HU := Lib.hid hu
  obtain ⟨g, hg⟩ : ∃ g, g = w.heap.size := ⟨_, rfl⟩
  have HK := Lib.hid (at_new w 57 (kc q) g hg)
  obtain ⟨R, hR⟩ : ∃ R, R = (if hasB s.ws (pN c q k.N) then Value.tuple #[.int .i64 (s.old : Nat), .bool (!b)] else .tuple #[.int .i64 (s.d.now : Nat), .bool false]) := ⟨_, rfl⟩
  rw [← hR]
  have HR := Lib.hid hR
  clear h hst hu hR
  go_enter Try.func14, Try.ntmps14
  go_upto_region 1 with fail
  rw [← hg]
  clear hg
  generalize w.alloc (.cells (kc q) 57) = W1 at *
  obtain ⟨c0, -, c2, -, -, -, -, lu⟩ := H.out.cells
  rw [← HU.out] at c0 c2 lu
  rw [HST.out] at c2
  have hz1 : (((2 : Nat) : Int) == 1) = false := rfl
  have hz2 : (((2 : Nat) : Int) == 2) = true := rfl
  go_wp2_with fail
  refine (now_any H.out.pool).mono ?_
  rintro e w2 ⟨rfl, rfl⟩
  go_upto_region 9 with fail
  clear c0 c2
  obtain ⟨-, c1, -, -, -, -, -, -⟩ := H.out.cells
  rw [← HU.out] at c1
  have r4 := HK.out.row
  have o4 := HK.out.open
  have l4 := HK.out.lt
  refine region_sq (fun _ => False) [(0, true), (1, true), (2, true), (3, true), (4, true), (5, false)] (by kernel_rfl) (by kernel_rfl) (fun _ _ d _ _ h => by cases d <;> exact h) ?_
  repeat (first
    | (refine sq_yes rfl (by rfl) (fun w' hM => by ((try replace hM := hM.of_drew); obtain ⟨hR1, hR2, hR3⟩ := hM.rules; have hA := hM.agg; obtain ⟨hA1, hA2⟩ := hA; clear hM; go_simp; with_reducible rfl)) ?_; simp only [Act.put, List.setIfInBounds_toArray, List.set_cons_zero, List.set_cons_succ])
    | (refine sq_no rfl (by rfl) ?_; simp only [Act.put, List.setIfInBounds_toArray, List.set_cons_zero, List.set_cons_succ]))
  clear c1 lu r4 o4 l4 HK
  replace H := Lib.hid H.out.drew
  replace HB := Lib.hid HB.out.drew
  generalize w2.drew = W4 at *
  refine sq_do_yes rfl (by rfl) (fun K_ hK_ => ?_)
  go_wp2_with fail
  refine (has_any k.gb k.gw k.gf c q k.N (nw k.N) s.ws _ H.out.flt H.out.wds H.out.fam H.out.hN H.out.hN2 rfl H.out.hl H.out.hx H.out.h1 H.out.h2 H.out.hb1).mono ?_
  rintro e w5 ⟨rfl, hb⟩
  have H5 := Lib.hid (H.out.below hb)
  have HB5 := Lib.hid (step_below HB.out hb)
  have HMa := Lib.hid (Mod.of_below (M := fun _ => False) hb)
  clear hb H HB
  generalize hasB s.ws (pN c q k.N) = t at *
  go_wp2_with fail
  refine ⟨HMa.out, ?_⟩
  refine sq_end ?_
  obtain ⟨-, -, -, -, -, c5, -, lu⟩ := H5.out.cells
  rw [← HU.out] at c5 lu
  cases t
  · go_wp2_with fail
    exact bodyPost_ret (v := .tuple #[.int .i64 (s.d.now : Nat), .bool false]) (by simp [results, Try.results14]) rfl ⟨by rw [HR.out]; rfl, HB5.out⟩
  · go_wp2_with fail
    exact bodyPost_ret (v := .tuple #[.int .i64 (s.old : Nat), .bool (!b)]) (by simp [results, Try.results14]) rfl ⟨by rw [HR.out]; rfl, HB5.out⟩
end
end Go.Proofs.Ytgjecemmejaieaa
