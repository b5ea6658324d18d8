/-
  Texts in one, each behind those that it needs: PvAdd, AggIn, FamPlaces.
-/
import Derived.Test.YthfgccibiajneaaBat
/-
  The table: Add.
-/
namespace Go.Proofs.Ythfgccibiajneaa
open Go.RowKit Go.Shelf
theorem exec_bldEn2 (parts : Array (Nat × Operand)) (dst : Option Tmp) (ty : TypeId) (pos : String) (after : Array Edge) (g : Option (Nat × Bool)) (f : Operand → Value) (w : World) :
    (execOp f ⟨dst, .build 167 parts, ty, pos, after, g⟩).run Try.prog w = bldX Try.prog 167 (parts.map fun (i, x) => (i, f x)) w := rfl
attribute [local go_sem ↓] exec_bldEn2
noncomputable def zE : Array Value := match (Try.prog.info? 167).bind (·.zero) with | some z => z.cells | none => #[]
theorem zE_size : zE.size = 20 := by kernel_rfl
theorem builtE_fill (X : List (Nat × Value)) : Try.prog.built 167 X = Instr.fill (#[(0, 19), (19, 1)][·]?) zE X := by kernel_rfl
theorem build_en (v : Vp) (p : Nat) (w : World) : bldX Try.prog 167 #[(0, .agg (vpc v)), (1, .pointer (some ⟨p, 0, none⟩))] w = .ok (.value (.agg (ec (v, some p)))) w := by
  refine bldX_of w ?_
  have hz := zE_size
  rw [show (#[((0 : Nat), Value.agg (vpc v)), (1, .pointer (some ⟨p, 0, none⟩))] : Array (Nat × Value)).toList = [(0, .agg (vpc v)), (1, .pointer (some ⟨p, 0, none⟩))] from rfl, builtE_fill]
  generalize zE = z at hz ⊢
  have hc : (Value.agg (vpc v)).cells = vpc v := rfl
  have h1 : Instr.fill (#[(0, 19), (19, 1)][·]?) z [(0, .agg (vpc v)), (1, .pointer (some ⟨p, 0, none⟩))] = some ((splice z 0 (vpc v).toList).setIfInBounds 19 (.pointer (some ⟨p, 0, none⟩))) := by
    have hf : (vpc v).zipIdx.foldl (fun cs (x : Value × Nat) => cs.setIfInBounds (0 + x.2) x.1) z = splice z 0 (vpc v).toList := by
      rw [← foldl_spliceP 0 (vpc v).toList 0 z, ← Array.foldl_toList, Array.toList_zipIdx]
    simp only [Instr.fill, List.getElem?_toArray, List.getElem?_cons_zero, List.getElem?_cons_succ, hc, vpc_size]
    rw [if_neg (by simp [hz])]
    rw [hf]
    simp [Value.cells, splice_size, hz]
  rw [h1]
  refine congrArg some (Array.ext_getElem? ?_)
  intro j
  simp only [Array.getElem?_setIfInBounds, splice_size, hz]
  rw [splice_get _ _ _ _ (by simp [vpc_size, hz])]
  rcases Nat.lt_or_ge j 19 with h | h
  · rw [if_neg (by omega), if_pos (by simp [vpc_size]; omega), ec_vp _ j h]
    simp
  · by_cases h4 : j = 19
    · subst h4
      rw [if_pos rfl, if_pos (by omega), ec_19?]; rfl
    · rw [if_neg (by omega), if_neg (by simp [vpc_size]; omega), Array.getElem?_eq_none (by rw [hz]; omega), Array.getElem?_eq_none (by rw [ec_size]; omega)]
@[go_sem] theorem tc_c (c : Cf) (E : List En) (m : Nat) : (tc c E m).extract 0 48 = cc c := by
  have := ext_of (a := 0) (n := 48) (x := tc c E m) (cc_size c) (by unfold tc; rw [Array.size_append, Array.size_append, cc_size]; omega) (fun j hj => by rw [Nat.add_zero, tc_lo j hj])
  simpa using this
/-- May they answer? -/
def addOk (c : Cf) (v : Vp) (L : List Mb) : Bool := vipOk v && (mOk L && (c.encap || !(L.any fun x => x.d.a.v6 != v.a.v6)))
section
variable {w w' : World} {b T m : Nat} {c : Cf} {E : List En} {M : List (Value × Value)}
theorem Vt.rd (h : Vt w b T m c E M) : Rd 20 enl w (some ⟨T, 48, none⟩) 16 E := by
  refine ⟨h.len, fun _ => ⟨T, 48, rfl, h.obj.lt, fun i x hx j hj => ?_⟩⟩
  have := tc_en (c := c) (m := m) i j (List.getElem?_eq_some_iff.1 hx).1 hj
  rw [hx, Option.bind_some, ec_get] at this
  rw [← this, h.obj.cell]; congr 1; omega
/-- What Add does. -/
def AddPost (w : World) (b T m : Nat) (c : Cf) (E : List En) (v : Vp) (L : List Mb) (n nv : Nat) (e : Ending) (w' : World) : Prop :=
  (addOk c v L = false ∧ e = .returned (.tuple #[.int .i64 0, .int .i64 1]) ∧ Below w.heap.size w w') ∨
  (addOk c v L = true ∧ (∃ i p : Nat, E[i]? = some (v, some p)) ∧ e = .returned (.tuple #[.int .i64 0, .int .i64 6]) ∧ Below w.heap.size w w') ∨
  (addOk c v L = true ∧ (∀ i p : Nat, E[i]? ≠ some (v, some p)) ∧ (∀ x ∈ E, x.2.isSome = true) ∧ e = .returned (.tuple #[.int .i64 0, .int .i64 3]) ∧ Below w.heap.size w w') ∨
  (addOk c v L = true ∧ (∀ i p : Nat, E[i]? ≠ some (v, some p)) ∧ ∃ (i : Nat) (u : Vp), E[i]? = some (u, none) ∧ (∀ x ∈ E.take i, x.2.isSome = true) ∧ e = .returned (.tuple #[.int .i64 (i : Nat), .int .i64 0]) ∧
    ∃ p t lv sv M' B, w.heap.size ≤ B ∧ w.heap.size ≤ p ∧ Vt w' b T m c (E.set i (v, some p)) M' ∧ Po w' B p t c ((List.replicate nv v0).set 0 ⟨sv, fillR [] L n, 0, false⟩) 0 lv L sv (fillR [] L n) ∧ Mod (fun g => g = T ∨ g = m) w w')
set_option maxRecDepth 100000 in
set_option maxHeartbeats 8000000 in
theorem vadd_any (h : Vt w b T m c E M) (v : Vp) (am : Option Addr) (nm cm n nv : Nat) (L : List Mb) (hM : Rd 19 Mb.l w am nm L) (hc : cok c = true) (hn : c.slots = n) (hv : c.versions = nv) (h1 : 1 ≤ n) (h2 : n ≤ 64) (h3 : 1 ≤ nv) (h4 : nv ≤ 64) :
    Calls Try.prog 48 #[.pointer (some ⟨T, 0, none⟩), .agg (vpc v), .slice am nm cm] w fun e w' => AddPost w b T m c E v L n nv e w' := by
  obtain ⟨bv, hbv⟩ : ∃ g, g = w.heap.size := ⟨_, rfl⟩
  have HV := Lib.hid (at_new w 86 (vpc v) bv hbv)
  have HB := Lib.hid ((Below.refl w.heap.size w).alloc (Nat.le_refl _) (.cells (vpc v) 86))
  have H := Lib.hid (h.alloc (.cells (vpc v) 86))
  have HR := Lib.hid (hM.alloc (.cells (vpc v) 86))
  have HCK := Lib.hid hc
  have HN := Lib.hid hn
  have HNV := Lib.hid hv
  have HOK := Lib.hid (show addOk c v L = (vipOk v && (mOk L && (c.encap || !(L.any fun x => x.d.a.v6 != v.a.v6)))) from rfl)
  have HLE := Lib.hid (show mOk L = true → nm ≤ 32 from fun hok => by have := (mOk_w hok).1; have := hM.1; omega)
  clear h hM hc hn hv
  go_enter Try.func48, Try.ntmps48
  go_upto_region 1 with fail
  rw [← hbv]
  clear hbv
  generalize w.alloc (.cells (vpc v) 86) = W at *
  obtain ⟨ha, hao⟩ := HV.out.agg 0 19 (by rw [vpc_size]; omega)
  rw [show 0 + 19 = 19 from rfl, vpc_all] at ha
  have lv := HV.out.lt
  go_wp2_with fail
  refine (vval_any v _).mono ?_
  rintro e w1 ⟨rfl, hb⟩
  replace H := Lib.hid (H.out.below hb)
  replace HV := Lib.hid (HV.out.below hb HV.out.lt)
  replace HR := Lib.hid (HR.out.below hb)
  replace HB := Lib.hid (step_below HB.out hb)
  clear hb ha hao lv
  cases hvo : vipOk v with
  | false =>
    rw [hvo] at HOK
    clear hvo
    go_wp2_with fail
    go_ret2
    exact .inl ⟨by rw [HOK.out]; rfl, rfl, HB.out⟩
  | true =>
    rw [hvo] at HOK
    clear hvo
    go_wp2_with fail
    refine (mcheck_any am nm cm L _ HR.out).mono ?_
    rintro e w2 ⟨rfl, hb⟩
    replace H := Lib.hid (H.out.below hb)
    replace HV := Lib.hid (HV.out.below hb HV.out.lt)
    replace HR := Lib.hid (HR.out.below hb)
    replace HB := Lib.hid (step_below HB.out hb)
    clear hb
    cases hmo : mOk L with
    | false =>
      rw [hmo] at HOK
      rw [mChk_no hmo]
      clear hmo
      go_wp2_with fail
      go_ret2
      exact .inl ⟨by rw [HOK.out]; rfl, rfl, HB.out⟩
    | true =>
      rw [hmo] at HOK
      rw [mChk_yes hmo]
      have HMO := Lib.hid hmo
      replace HLE := Lib.hid (HLE.out hmo)
      clear hmo
      have c12 := H.out.obj.cell 12
      rw [tc_lo 12 (by omega), cl_head c 12 (by omega)] at c12
      simp only [Cf.head, List.getElem?_cons_succ, List.getElem?_cons_zero] at c12
      have lT := H.out.obj.lt
      obtain ⟨en, hen⟩ : ∃ q, q = c.encap := ⟨_, rfl⟩
      obtain ⟨kd, hkd⟩ : ∃ q, q = (L.any fun x => x.d.a.v6 != v.a.v6) := ⟨_, rfl⟩
      rw [← hen] at c12 HOK
      rw [← hkd] at HOK
      have HKD := Lib.hid hkd
      clear hen hkd
      go_upto_region 3 with fail
      go_cut [25, 26, 27, 28, 29, 30, 31, 32, 33, 34, 35] (fun _ _ _ _ _ _ _ _ _ _ s35 wx => s35 = .bool (!en && kd) ∧ Below w2.heap.size w2 wx)
      case first =>
        cases en with
        | true =>
          go_wp2_with fail
          go_meet
          exact ⟨rfl, Below.refl _ _⟩
        | false =>
          go_wp2_with fail
          refine (contains_any bv v nm cm am L _ HR.out (by have := HLE.out; omega) HV.out).mono ?_
          rintro e w3 ⟨rfl, hb⟩
          rw [← HKD.out]
          have HB3 := Lib.hid hb
          clear hb c12
          go_wp2_with fail
          go_meet
          exact ⟨rfl, HB3.out⟩
      case rest =>
        obtain ⟨rfl, hb⟩ := hcut
        replace H := Lib.hid (H.out.below hb)
        replace HV := Lib.hid (HV.out.below hb HV.out.lt)
        replace HR := Lib.hid (HR.out.below hb)
        replace HB := Lib.hid (step_below HB.out hb)
        clear hb c12 lT
        cases hek : (!en && kd) with
        | true =>
          have HNO := Lib.hid (show addOk c v L = false by rw [HOK.out]; cases en <;> cases kd <;> first | rfl | cases hek)
          clear hek
          go_wp2_with fail
          go_ret2
          exact .inl ⟨HNO.out, rfl, HB.out⟩
        | false =>
          have HYES := Lib.hid (show addOk c v L = true by rw [HOK.out]; cases en <;> cases kd <;> first | rfl | cases hek)
          clear hek HOK HKD
          have c1 := H.out.mcell
          have lT := H.out.obj.lt
          obtain ⟨ha, hao⟩ := HV.out.agg 0 19 (by rw [vpc_size]; omega)
          rw [show 0 + 19 = 19 from rfl, vpc_all] at ha
          have lv := HV.out.lt
          by_cases hwe : ∃ i p : Nat, E[i]? = some (v, some p)
          · have HWE := Lib.hid hwe
            obtain ⟨i, p, hip⟩ := hwe
            have hlk := H.out.drew.mp.lookup_yes (P := Try.prog) vpMapT vpKeyed (key_vp v) ((H.out.keys v i).2 ⟨p, hip⟩) true
            simp only [if_true] at hlk
            clear hip
            go_wp2_with fail
            refine region_sq (fun _ => False) [(0, true), (1, true), (2, true), (3, true), (4, true), (5, false), (6, true), (7, true), (8, true), (9, true), (10, true)] (by kernel_rfl) (by kernel_rfl) (fun _ _ d _ _ h => by cases d <;> exact h) ?_
            repeat (first
              | (refine sq_yes rfl (by rfl) (fun w' hM => by ((try replace hM := hM.of_drew); obtain ⟨hR1, hR2, hR3⟩ := hM.rules; have hA := hM.agg; obtain ⟨hA1, hA2⟩ := hA; clear hM; go_simp; with_reducible rfl)) ?_; simp only [Act.put, List.setIfInBounds_toArray, List.set_cons_zero, List.set_cons_succ])
              | (refine sq_no rfl (by rfl) ?_; simp only [Act.put, List.setIfInBounds_toArray, List.set_cons_zero, List.set_cons_succ]))
            refine sq_do_yes rfl (by rfl) (fun K hK => ?_)
            go_wp2_with fail
            refine ⟨Mod.refl _ _, ?_⟩
            repeat (first
              | (refine sq_yes rfl (by rfl) (fun w' hM => by ((try replace hM := hM.of_drew); obtain ⟨hR1, hR2, hR3⟩ := hM.rules; have hA := hM.agg; obtain ⟨hA1, hA2⟩ := hA; clear hM; go_simp; with_reducible rfl)) ?_; simp only [Act.put, List.setIfInBounds_toArray, List.set_cons_zero, List.set_cons_succ])
              | (refine sq_no rfl (by rfl) ?_; simp only [Act.put, List.setIfInBounds_toArray, List.set_cons_zero, List.set_cons_succ]))
            refine sq_end ?_
            go_wp2_with fail
            go_ret2
            exact .inr (.inl ⟨HYES.out, HWE.out, rfl, HB.out.drew⟩)
          · have hne : ∀ i p : Nat, E[i]? ≠ some (v, some p) := fun i p h => hwe ⟨i, p, h⟩
            have HNE := Lib.hid hne
            have hlk := H.out.drew.mp.lookup_no (P := Try.prog) vpMapT (zeroIn _) vpKeyed (key_vp v) (H.out.out hne) true
            simp only [if_true] at hlk
            clear hne hwe
            go_wp2_with fail
            refine region_sq (fun _ => False) [(0, true), (1, true), (2, true), (3, true), (4, true), (5, false), (6, true), (7, true), (8, true), (9, true), (10, true)] (by kernel_rfl) (by kernel_rfl) (fun _ _ d _ _ h => by cases d <;> exact h) ?_
            repeat (first
              | (refine sq_yes rfl (by rfl) (fun w' hM => by ((try replace hM := hM.of_drew); obtain ⟨hR1, hR2, hR3⟩ := hM.rules; have hA := hM.agg; obtain ⟨hA1, hA2⟩ := hA; clear hM; go_simp; with_reducible rfl)) ?_; simp only [Act.put, List.setIfInBounds_toArray, List.set_cons_zero, List.set_cons_succ])
              | (refine sq_no rfl (by rfl) ?_; simp only [Act.put, List.setIfInBounds_toArray, List.set_cons_zero, List.set_cons_succ]))
            refine sq_do_yes rfl (by rfl) (fun K hK => ?_)
            go_wp2_with fail
            refine ⟨Mod.refl _ _, ?_⟩
            repeat (first
              | (refine sq_yes rfl (by rfl) (fun w' hM => by ((try replace hM := hM.of_drew); obtain ⟨hR1, hR2, hR3⟩ := hM.rules; have hA := hM.agg; obtain ⟨hA1, hA2⟩ := hA; clear hM; go_simp; with_reducible rfl)) ?_; simp only [Act.put, List.setIfInBounds_toArray, List.set_cons_zero, List.set_cons_succ])
              | (refine sq_no rfl (by rfl) ?_; simp only [Act.put, List.setIfInBounds_toArray, List.set_cons_zero, List.set_cons_succ]))
            refine sq_end ?_
            clear hlk c1 ha hao
            replace H := Lib.hid H.out.drew
            replace HV := Lib.hid (show At wc.drew bv 86 (vpc v) from HV.out)
            replace HR := Lib.hid HR.out.drew
            replace HB := Lib.hid HB.out.drew
            go_wp2_with fail
            refine (eidx_any #[] (fun x => !x.2.isSome) 16 16 (some ⟨T, 48, none⟩) E _ H.out.rd (by omega) (enters_of Try.func101 (by kernel_rfl) rfl) (fun x wr _ _ => nclo_any x wr)).mono ?_
            rintro e w4 ⟨rfl, hb⟩
            replace H := Lib.hid (H.out.below hb)
            replace HV := Lib.hid (HV.out.below hb HV.out.lt)
            replace HR := Lib.hid (HR.out.below hb)
            replace HB := Lib.hid (step_below HB.out hb)
            clear hb lT lv
            cases hf : E.findIdx? (fun x : En => !x.2.isSome) with
            | none =>
              have hidx : idxI (fun x : En => !x.2.isSome) E = -1 := by unfold idxI; rw [hf]
              rw [List.findIdx?_eq_none_iff] at hf
              have HALL := Lib.hid (show ∀ x ∈ E, x.2.isSome = true from fun x hx => by simpa using hf x hx)
              rw [hidx]
              clear hidx hf
              go_wp2_with fail
              go_ret2
              exact .inr (.inr (.inl ⟨HYES.out, HNE.out, HALL.out, rfl, HB.out⟩))
            | some i =>
              have hidx : idxI (fun x : En => !x.2.isSome) E = (i : Nat) := by unfold idxI; rw [hf]
              obtain ⟨hil, hqi, hpre⟩ := List.findIdx?_eq_some_iff_getElem.1 hf
              obtain ⟨u, hu⟩ : ∃ u, E[i]? = some (u, none) := by
                refine ⟨E[i].1, ?_⟩
                rw [List.getElem?_eq_getElem hil]
                simp only [Bool.not_eq_true', Option.isSome_eq_false_iff, Option.isNone_iff_eq_none] at hqi
                exact congrArg some (Prod.ext rfl hqi)
              have HU := Lib.hid hu
              have HPRE := Lib.hid (show ∀ x ∈ E.take i, x.2.isSome = true from fun x hx => by
                obtain ⟨k, hk, rfl⟩ := List.mem_take_iff_getElem.1 hx
                have := hpre k (by omega)
                cases hs : (E[k]).2.isSome with
                | true => rfl
                | false => rw [hs] at this; simp at this)
              have hi16 : i < 16 := by have := H.out.len; omega
              rw [hidx]
              clear hidx hf hil hqi hpre hu
              have rT := H.out.obj.row
              have oT := H.out.obj.open
              have lT := H.out.obj.lt
              have hsz : (tc c E m).size = 369 := tc_size H.out.len
              go_wp2_with fail
              refine (pnew_any c am nm cm n nv L _ HR.out HMO.out HCK.out HN.out HNV.out h1 h2 h3 h4).mono ?_
              rintro e w5 ⟨p, t, lv, sv, rfl, hP, hb⟩
              have HTB := Lib.hid H.out.obj.lt
              have HMB := Lib.hid H.out.mp.lt
              replace H := Lib.hid (H.out.below hb)
              replace HV := Lib.hid (HV.out.below hb HV.out.lt)
              have HBS := Lib.hid HB.out.size
              replace HB := Lib.hid (step_below HB.out hb)
              have HP := Lib.hid hP
              clear hb rT oT lT hsz hP
              have c1 := H.out.mcell
              have lT := H.out.obj.lt
              obtain ⟨ha, hao⟩ := HV.out.agg 0 19 (by rw [vpc_size]; omega)
              rw [show 0 + 19 = 19 from rfl, vpc_all] at ha
              have lv' := HV.out.lt
              have hne := H.out.ne
              have hbt : ¬ bv = T := At.ne HV.out H.out.obj (by decide)
              have hbm : ¬ bv = m := H.out.mp.notAt HV.out
              have hiz : (i : Int) < 16 := by omega
              have hbe := build_en v p
              obtain ⟨hst, hat, hms⟩ := en_store H.out.drew.obj H.out.len hi16 (v, some p)
              have f0 := H.out.drew.obj.frozen (48 + i * 20)
              have HAT := Lib.hid hat
              have HMS := Lib.hid hms
              clear hat hms
              go_wp2_with fail
              refine region_sq (fun g => g = T ∨ g = m) [(0, true), (1, true), (2, true), (3, true), (4, true), (6, true), (7, true), (8, true), (9, true), (10, true), (11, true), (12, true), (5, false), (13, true), (14, false), (15, false), (16, true), (17, false)] (by kernel_rfl) (by kernel_rfl) (fun _ _ d _ _ h => by cases d <;> exact h) ?_
              repeat (first
                | (refine sq_yes rfl (by rfl) (fun w' hM => by ((try replace hM := hM.of_drew); obtain ⟨hR1, hR2, hR3⟩ := hM.rules; have hA := hM.agg; obtain ⟨hA1, hA2⟩ := hA; clear hM; go_simp; with_reducible rfl)) ?_; simp only [Act.put, List.setIfInBounds_toArray, List.set_cons_zero, List.set_cons_succ])
                | (refine sq_no rfl (by rfl) ?_; simp only [Act.put, List.setIfInBounds_toArray, List.set_cons_zero, List.set_cons_succ]))
              refine sq_do_yes rfl (by rfl) (fun K hK => ?_)
              go_wp2_with fail
              refine ⟨Mod.refl _ _, ?_⟩
              repeat (first
                | (refine sq_yes rfl (by rfl) (fun w' hM => by ((try replace hM := hM.of_drew); obtain ⟨hR1, hR2, hR3⟩ := hM.rules; have hA := hM.agg; obtain ⟨hA1, hA2⟩ := hA; clear hM; go_simp; with_reducible rfl)) ?_; simp only [Act.put, List.setIfInBounds_toArray, List.set_cons_zero, List.set_cons_succ])
                | (refine sq_no rfl (by rfl) ?_; simp only [Act.put, List.setIfInBounds_toArray, List.set_cons_zero, List.set_cons_succ]))
              refine sq_do_yes rfl (by rfl) (fun K hK => ?_)
              go_wp2_with fail
              refine ⟨HMS.out.mono (fun g _ hg => .inl hg), ?_⟩
              have HM6 := Lib.hid (H.out.drew.mp.mod HMS.out (fun h => hne h.symm))
              have HSZ6 := Lib.hid HMS.out.size
              clear c1 ha hao hbe hst f0
              generalize w5.drew.setCells T (48 + i * 20) (ec (v, some p)).toList = W6 at *
              obtain ⟨st, W7, he, hm7, hs7, hes⟩ := HM6.out.entry_new (P := Try.prog) vpMapT (zeroIn W6) vpKeyed (key_vp v) (H.out.out HNE.out)
              have HM7 := Lib.hid hm7
              have HES := Lib.hid hes
              clear hes hm7 hs7
              refine sq_do_yes rfl (by rfl) (fun K hK => ?_)
              go_wp2_with fail
              refine ⟨HM7.out.mono (fun g _ hg => .inr hg), ?_⟩
              clear he
              repeat (first
                | (refine sq_yes rfl (by rfl) (fun w' hM => by ((try replace hM := hM.of_drew); obtain ⟨hR1, hR2, hR3⟩ := hM.rules; have hA := hM.agg; obtain ⟨hA1, hA2⟩ := hA; clear hM; go_simp; with_reducible rfl)) ?_; simp only [Act.put, List.setIfInBounds_toArray, List.set_cons_zero, List.set_cons_succ])
                | (refine sq_no rfl (by rfl) ?_; simp only [Act.put, List.setIfInBounds_toArray, List.set_cons_zero, List.set_cons_succ]))
              obtain ⟨W8, he8, hk8, hm8, hs8⟩ := HES.out (.int .i64 (i : Nat)) W7 rfl
              have HK8 := Lib.hid hk8
              have HM8 := Lib.hid hm8
              clear hk8 hm8 hs8
              refine sq_do_yes rfl (by rfl) (fun K hK => ?_)
              go_wp2_with fail
              refine ⟨HM8.out.mono (fun g _ hg => .inr hg), ?_⟩
              clear he8
              refine sq_end ?_
              go_wp2_with fail
              go_ret2
              have hm78 := HM7.out.trans HM8.out
              have hall : Mod (fun g => g = T ∨ g = m) w5 W8 := ((Mod.refl (fun g => g = T ∨ g = m) w5).drew.trans (HMS.out.mono (fun g _ hg => .inl hg))).trans (hm78.mono (fun g _ hg => .inr hg))
              refine .inr (.inr (.inr ⟨HYES.out, HNE.out, i, u, HU.out, HPRE.out, rfl, p, t, lv, sv, _, w4.heap.size, HBS.out, Nat.le_trans HBS.out HP.out.bp, H.out.put HU.out HNE.out (HAT.out.mod hm78 hne) HK8.out, ?_, (Mod.of_below HB.out).trans (hall.mono ?_)⟩))
              · refine HP.out.same fun g hg hl => hall.block g hl ?_
                have h1 := HTB.out
                have h2 := HMB.out
                rintro (rfl | rfl) <;> omega
              · exact fun g _ hg => hg
end
end Go.Proofs.Ythfgccibiajneaa

/-
  A load of a whole array or struct, one step, inside a fence.
-/
namespace Go.Proofs.Ythfgccibiajneaa
open Go.RowKit
theorem wpListIn_load_part {F : Fence} {n : Nat} {P : Program} {w : World} {ops : Array Oper} {rest : List Oper} {o : Oper} {a : Act} {Q : Exit → Act → World → Prop}
    (hg : o.guard = none) (ty : TypeId) (x : Operand) (hop : o.op = .load ty x) (d : TypeDesc) (k : Nat) (hu : P.underlying ty = some d) (hd : (match d with | .struct _ | .array _ _ => true | _ => false) = true)
    (hi : (P.info? ty).map (·.size) = some k) (b off : Nat) (t : TypeId) (cs : Array Value) (hx : a.eval x = .pointer (some ⟨b, off, none⟩)) (h : At w b t cs) (hs : off + k ≤ cs.size)
    (hK : wpListIn F n P ops Q rest (a.put o.dst (.agg (cs.extract off (off + k)))) w) : wpListIn F n P ops Q (o :: rest) a w := by
  refine wpListIn_plain hg fun K hK' => ?_
  have hr := loadAt_part (P := P) ty d k hu hd hi w b off h.open (by rw [h.row]; exact hs)
  rw [h.row] at hr
  unfold Oper.wpIn
  refine ⟨?_, ?_⟩
  · simp [Oper.about, hop]
  · rw [Oper.semAt_plain F _ _ (by rw [hop]; intro c hc'; cases hc')]
    simp [execOp, hop, hx, hr]
    exact hK' _ _ hK
/-- .. an operation that waits for a test, and is wanted. -/
theorem wpListIn_load_want {F : Fence} {n : Nat} {P : Program} {w : World} {ops : Array Oper} {rest : List Oper} {o : Oper} {a : Act} {Q : Exit → Act → World → Prop}
    (hw : Region.wanted o (yielded ops a.tmps) = true) (ty : TypeId) (x : Operand) (hop : o.op = .load ty x) (d : TypeDesc) (k : Nat) (hu : P.underlying ty = some d) (hd : (match d with | .struct _ | .array _ _ => true | _ => false) = true)
    (hi : (P.info? ty).map (·.size) = some k) (b off : Nat) (t : TypeId) (cs : Array Value) (hx : a.eval x = .pointer (some ⟨b, off, none⟩)) (h : At w b t cs) (hs : off + k ≤ cs.size)
    (hK : wpListIn F n P ops Q rest (a.put o.dst (.agg (cs.extract off (off + k)))) w) : wpListIn F n P ops Q (o :: rest) a w := by
  refine wpListIn_step fun K hK' => ?_
  rw [if_pos hw]
  have hr := loadAt_part (P := P) ty d k hu hd hi w b off h.open (by rw [h.row]; exact hs)
  rw [h.row] at hr
  unfold Oper.wpIn
  refine ⟨?_, ?_⟩
  · simp [Oper.about, hop]
  · rw [Oper.semAt_plain F _ _ (by rw [hop]; intro c hc'; cases hc')]
    simp [execOp, hop, hx, hr]
    exact hK' _ _ hK
end Go.Proofs.Ythfgccibiajneaa

/-
  A family's Places of a flow: an iterator.
-/
namespace Go.Proofs.Ythfgccibiajneaa
open Go.RowKit Go.Shelf
attribute [local go_sem] Oper.semAt_some
def plEnc (c : Cf) (k : Ky) (s : Nat) : Array Value := #[.agg #[.int .i64 s, .int .i64 (idx c k s)]]
/-- How many places a flow has. -/
def plN (c : Cf) (k : Ky) : Nat := if kvld k = true then c.stages.toNat else 0
theorem range_snoc (n : Nat) : List.range (n + 1) = List.range n ++ [n] := List.range_succ
/-- What a round keeps: whatever lay below n₀, and the closure's own boxes. -/
def KpF (n₀ B1 B2 : Nat) (A B : World) : Prop := Below n₀ A B ∧ B.heap[B1]? = A.heap[B1]? ∧ B.heap[B2]? = A.heap[B2]?
theorem KpF.t {n₀ B1 B2 : Nat} {A B C : World} (h : KpF n₀ B1 B2 A B) (k : KpF n₀ B1 B2 B C) : KpF n₀ B1 B2 A C := ⟨h.1.trans k.1, k.2.1.trans h.2.1, k.2.2.trans h.2.2⟩
theorem KpF.b {n₀ B1 B2 : Nat} {w : World} (hn : n₀ ≤ w.heap.size) (h1 : B1 < w.heap.size) (h2 : B2 < w.heap.size) (W : World) (l : Nat) (o o' : Obj) (hl : w.heap.size ≤ l) (h : W.heap[l]? = some o) (q1 : o.isCells = false) (q2 : o.isWalk = false) : KpF n₀ B1 B2 W (W.putObj l o') :=
  ⟨belowK_b hn W l o o' hl h q1 q2, World.putObj_heap_other (by omega), World.putObj_heap_other (by omega)⟩
theorem KpF.refl (n₀ B1 B2 : Nat) (A : World) : KpF n₀ B1 B2 A A := ⟨Below.refl _ _, rfl, rfl⟩
theorem KpF.below {n₀ B1 B2 : Nat} {A B : World} (hb : Below A.heap.size A B) (hn : n₀ ≤ A.heap.size) (h1 : B1 < A.heap.size) (h2 : B2 < A.heap.size) : KpF n₀ B1 B2 A B := ⟨hb.mono hn, hb.block _ h1, hb.block _ h2⟩
theorem KpF.lt1 {n₀ B1 B2 : Nat} {A B : World} (h : KpF n₀ B1 B2 A B) (h1 : B1 < A.heap.size) : B1 < B.heap.size := by
  have := h.2.1
  rw [Array.getElem?_eq_getElem h1] at this
  exact (Array.getElem?_eq_some_iff.1 this).1
theorem KpF.lt2 {n₀ B1 B2 : Nat} {A B : World} (h : KpF n₀ B1 B2 A B) (h1 : B2 < A.heap.size) : B2 < B.heap.size := by
  have := h.2.2
  rw [Array.getElem?_eq_getElem h1] at this
  exact (Array.getElem?_eq_some_iff.1 this).1
theorem grown_of_below {a b : World} (h : Below a.heap.size a b) : a.grownBy b none := ⟨h.os, h.tape, h.output, h.size, fun k hk _ => h.block k hk⟩
set_option maxRecDepth 100000 in
set_option maxHeartbeats 4000000 in
theorem places1_any (n l' B1 B2 n₀ gf : Nat) (c : Cf) (k : Ky) (hst : c.stages ≤ 4) (hsz : 1 ≤ c.size) (hf : gf < n₀) (J Jx : List Nat → World → Prop) (W : World) (hn0 : n₀ ≤ W.heap.size) (hB1 : B1 < W.heap.size) (hB2 : B2 < W.heap.size)
    (hJ : AbidesFrom W.heap.size J)
    (hY : ∀ pre x W1, J pre W1 → pre.length < 4 → YieldAt Fence.wide (n - 1) Try.prog l' (plEnc c k x) W1 fun e W' =>
      (e = .returned (.bool true) ∧ J (pre ++ [x]) W' ∧ KpF n₀ B1 B2 W1 W') ∨ (e = .returned (.bool false) ∧ Jx (pre ++ [x]) W'))
    (hBs : At W B1 37 #[.pointer (some ⟨gf, 0, none⟩)]) (hBk : At W B2 31 (kc k)) (hF : At W gf 139 (fc c)) (h0 : J [] W) :
    CallsIn Fence.wide n Try.prog 115 #[.func (.yield l') #[] #[], .pointer (some ⟨B1, 0, none⟩), .pointer (some ⟨B2, 0, none⟩)] W fun e W' => (∃ v, e = .returned v) ∧
      ((∃ ys, ys = List.range (plN c k) ∧ J ys W') ∨ (∃ pre, (∃ q, q ≤ plN c k ∧ pre = List.range q) ∧ Jx pre W')) := by
  have HF := Lib.hid hF
  have HS := Lib.hid hBs
  have HK := Lib.hid hBk
  have HJ := Lib.hid hJ
  have HY := Lib.hid hY
  have HPN := Lib.hid (show plN c k = (if kvld k = true then c.stages.toNat else 0) from rfl)
  have hN4 : plN c k ≤ 4 := by unfold plN; split <;> omega
  have HY4 : Hid (∀ s : Nat, s < plN c k → placeOf c k s = .tuple #[.agg #[.int .i64 s, .int .i64 (idx c k s)], .bool true]) := Lib.hid fun s hs => by
    unfold plN at hs
    split at hs
    · rename_i hv; exact placeOf_yes c k s hv (by omega)
    · omega
  have HN4 : Hid (∀ s : Nat, ¬ s < plN c k → placeOf c k s = .tuple #[.agg #[.int .i64 0, .int .i64 0], .bool false]) := Lib.hid fun s hs => by
    unfold plN at hs
    split at hs
    · exact placeOf_no c k s (.inr (.inr (by omega)))
    · rename_i hv; exact placeOf_no c k s (.inl (by simpa using hv))
  clear hF hBs hBk hJ hY
  generalize plN c k = N at *
  refine callsIn_of_wp Try.func115 rfl trivial ?_ rfl
  simp only [Try.ntmps115, List.size_toArray, List.length_cons, List.length_nil, Nat.reduceAdd, Nat.reduceSub, Array.replicate_succ, Array.replicate_zero, List.push_toArray, List.append_toArray, List.nil_append, List.cons_append]
  gi_wp2
  gi_loopw [4, 5, 6] (fun i _ _ wr => ∃ s : Nat, s ≤ N ∧ i = .int .i64 s ∧ J (List.range s) wr ∧ KpF n₀ B1 B2 W wr) (fun i _ _ wr => N + 1 - (intOf i).toNat)
  case atStart => exact ⟨0, Nat.zero_le _, rfl, h0, KpF.refl _ _ _ _⟩
  case round =>
    obtain ⟨s, hs, rfl, hj, hk⟩ := hrel
    have HJJ := Lib.hid hj
    have HKP := Lib.hid hk
    clear hj hk
    have hAs : At wr B1 37 #[.pointer (some ⟨gf, 0, none⟩)] := HKP.out.2.1.trans HS.out
    have hAk : At wr B2 31 (kc k) := HKP.out.2.2.trans HK.out
    have hAf : At wr gf 139 (fc c) := HF.out.below HKP.out.1 hf
    have HAF := Lib.hid hAf
    have l1 := hAk.lt
    have c1 := hAs.cell 0
    have l2 := hAs.lt
    simp only [List.getElem?_toArray, List.getElem?_cons_zero] at c1
    have HAK := Lib.hid hAk
    clear hAs hAk hAf
    by_cases hlt : s < N
    · have P1 := Lib.hid (HY4.out s hlt)
      gi_wp2_with (refine wpListIn_load_part rfl 31 _ rfl _ 37 Try.underlying31 rfl sizeK B2 0 31 (kc k) rfl HAK.out (by rw [kc_size]; decide) ?_)
      refine ⟨trivial, fun h => (by simp [Fence.wide] at h), (callsIn_wide.2 (place_any gf c k s _ HAF.out hst hsz)).mono ?_⟩
      rintro e w1 ⟨rfl, hb⟩
      rw [P1.out]
      have HKP1 := Lib.hid (HKP.out.t (KpF.below hb (Nat.le_trans hn0 HKP.out.1.size) l2 l1))
      have HJ1 := Lib.hid (HJ.out _ _ ((w1.alloc (.cells #[.int .i64 (s : Int), .int .i64 (idx c k s)] 41))) none (HJ.out _ _ _ none HJJ.out (grown_of_below hb) (fun r e => by cases e)) (World.grownBy_alloc w1 _ none) (fun r e => by cases e))
      have hll : (List.range s).length < 4 := by rw [List.length_range]; omega
      obtain ⟨fn, tmps, assign, body, hy, hR⟩ := HY.out _ s _ HJ1.out hll
      simp only [plEnc] at hy
      have HR := Lib.hid hR
      clear hR hll l1 l2 c1
      gi_wp2
      refine ⟨fun h => (by simp [Fence.wide] at h), HR.out.mono ?_⟩
      rintro e W3 (⟨rfl, hJ3, hk3⟩ | ⟨rfl, hJx3⟩)
      · have HJ3 := Lib.hid hJ3
        have HK3 := Lib.hid hk3
        clear hJ3 hk3
        gi_wp2
        go_roundw
        case rel => exact ⟨s + 1, by omega, by go_num, by rw [range_snoc]; exact HJ3.out, (HKP1.out.t (KpF.below ((Below.refl _ _).alloc (Nat.le_refl _) _) (Nat.le_trans hn0 HKP1.out.1.size) (KpF.lt1 HKP1.out hB1) (KpF.lt2 HKP1.out hB2))).t HK3.out⟩
        case measure => simp [intOf]; omega
      · have HJ3 := Lib.hid hJx3
        clear hJx3
        gi_wp2
        refine bodyPost_ret (results_none rfl _ _ _) rfl ?_
        exact ⟨⟨_, rfl⟩, .inr ⟨_, ⟨s + 1, by omega, (range_snoc s).symm⟩, HJ3.out⟩⟩
    · obtain rfl : s = N := by omega
      have P0 := Lib.hid (HN4.out s hlt)
      gi_wp2_with (refine wpListIn_load_part rfl 31 _ rfl _ 37 Try.underlying31 rfl sizeK B2 0 31 (kc k) rfl HAK.out (by rw [kc_size]; decide) ?_)
      refine ⟨trivial, fun h => (by simp [Fence.wide] at h), (callsIn_wide.2 (place_any gf c k s _ HAF.out hst hsz)).mono ?_⟩
      rintro e w1 ⟨rfl, hb⟩
      rw [P0.out]
      have HJ1 := Lib.hid (HJ.out _ _ ((w1.alloc (.cells #[.int .i64 0, .int .i64 0] 41))) none (HJ.out _ _ _ none HJJ.out (grown_of_below hb) (fun r e => by cases e)) (World.grownBy_alloc w1 _ none) (fun r e => by cases e))
      clear l1 l2 c1 hb
      gi_wp2
      refine ⟨fun _ h => (by cases h), ?_⟩
      gi_wp2
      refine bodyPost_ret (results_none rfl _ _ _) rfl ?_
      exact ⟨⟨_, rfl⟩, .inl ⟨_, rfl, HJ1.out⟩⟩
theorem placesv_any (p : Option Addr) (k : Ky) (w : World) :
    Calls Try.prog 88 #[.pointer p, .agg (kc k)] w fun e w' => e = .returned (.func (.func 115) #[] #[.pointer (some ⟨w.heap.size, 0, none⟩), .pointer (some ⟨w.heap.size + 1, 0, none⟩)]) ∧ w' = (w.alloc (.cells #[.pointer p] 37)).alloc (.cells (kc k) 31) := by
  go_enter Try.func88, Try.ntmps88
  go_wp2_with fail
  go_ret
  exact ⟨rfl, rfl⟩
theorem places_stops (n B1 B2 n₀ gf : Nat) (c : Cf) (k : Ky) (hst : c.stages ≤ 4) (hsz : 1 ≤ c.size) (hf : gf < n₀) (w : World) (hn0 : n₀ ≤ w.heap.size) (hB1 : B1 < w.heap.size) (hB2 : B2 < w.heap.size)
    (hBs : At w B1 37 #[.pointer (some ⟨gf, 0, none⟩)]) (hBk : At w B2 31 (kc k)) (hF : At w gf 139 (fc c)) :
    SeqStopsK Fence.wide n Try.prog 115 #[.pointer (some ⟨B1, 0, none⟩), .pointer (some ⟨B2, 0, none⟩)] (plEnc c k) (KpF n₀ B1 B2) (fun ys => ys = List.range (plN c k)) (fun pre => ∃ q, q ≤ plN c k ∧ pre = List.range q) 4 w := fun l' J Jx W hW hJ _ hY h0 =>
  places1_any n l' B1 B2 n₀ gf c k hst hsz hf J Jx W (Nat.le_trans hn0 hW.size) (Nat.lt_of_lt_of_le hB1 hW.size) (Nat.lt_of_lt_of_le hB2 hW.size) hJ hY (hBs.below hW hB1) (hBk.below hW hB2) (hF.below hW (by omega)) h0
end Go.Proofs.Ythfgccibiajneaa
