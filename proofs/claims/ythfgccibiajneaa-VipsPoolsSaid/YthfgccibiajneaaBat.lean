/-
  Texts in one, each behind those that it needs: PvSet, PvRem, PvFind, PvNew, PvIdx.
-/
import Derived.Test.YthfgccibiajneaaBas
/-
  The table: entries put in and taken out.
-/
namespace Go.Proofs.Ythfgccibiajneaa
open Go.RowKit
section
variable {w w' : World} {b T m : Nat} {c : Cf} {E : List En} {M : List (Value × Value)}
theorem countP_set {α : Type} (p : α → Bool) : ∀ (L : List α) (i : Nat) (x y : α), L[i]? = some x → (L.set i y).countP p + (if p x then 1 else 0) = L.countP p + (if p y then 1 else 0)
  | [], _, _, _, h => by simp at h
  | a :: r, 0, x, y, h => by
    simp only [List.getElem?_cons_zero, Option.some.injEq] at h
    subst h
    simp only [List.set_cons_zero, List.countP_cons]
    omega
  | a :: r, i + 1, x, y, h => by
    simp only [List.getElem?_cons_succ] at h
    have := countP_set p r i x y h
    simp only [List.set_cons_succ, List.countP_cons]
    omega
/-- No two entries of one VIP. -/
theorem Vt.one (h : Vt w b T m c E M) {i j : Nat} {v : Vp} {p q : Nat} (hi : E[i]? = some (v, some p)) (hj : E[j]? = some (v, some q)) : i = j := by
  have h1 := (h.keys v i).2 ⟨p, hi⟩
  have h2 := (h.keys v j).2 ⟨q, hj⟩
  have := h.mp.uniq h1 h2
  simp only [Value.int.injEq, true_and] at this
  omega
/-- One that is in. -/
theorem Vt.mem (h : Vt w b T m c E M) {i : Nat} {v : Vp} {p : Nat} (hi : E[i]? = some (v, some p)) : ∃ j : Nat, M[j]? = some (.agg (vpc v), .int .i64 (i : Nat)) :=
  List.getElem?_of_mem ((h.keys v i).2 ⟨p, hi⟩)
theorem Vt.out (h : Vt w b T m c E M) {v : Vp} (hv : ∀ (i p : Nat), E[i]? ≠ some (v, some p)) : ∀ x ∈ M, x.1 ≠ .agg (vpc v) := by
  intro x hx e
  obtain ⟨u, i, rfl⟩ := h.form x hx
  simp only [Value.agg.injEq] at e
  obtain rfl := Vp.inj e
  obtain ⟨p, hp⟩ := (h.keys u i).1 hx
  exact hv i p hp
/-- Taken out. -/
theorem Vt.drop (h : Vt w b T m c E M) {i j : Nat} {v : Vp} {p : Nat} (hi : E[i]? = some (v, some p)) (hj : M[j]? = some (.agg (vpc v), .int .i64 (i : Nat)))
    (ho : At w' T 170 (tc c (E.set i (vz, none)) m)) (hm : Mk Try.prog 86 w' m (M.eraseIdx j)) : Vt w' b T m c (E.set i (vz, none)) (M.eraseIdx j) := by
  have hil := (List.getElem?_eq_some_iff.1 hi).1
  refine ⟨ho, hm, h.bT, h.bm, by rw [List.length_set]; exact h.len, fun x hx => h.form x ((List.eraseIdx_sublist _ _).subset hx), ?_, ?_⟩
  · intro u k
    have hp := List.pairwise_iff_getElem.1 h.mp.apart
    obtain ⟨hjl, hje⟩ := List.getElem?_eq_some_iff.1 hj
    constructor
    · intro hx
      obtain ⟨q, hq⟩ := (h.keys u k).1 ((List.eraseIdx_sublist _ _).subset hx)
      have hne : i ≠ k := by
        rintro rfl
        rw [hi] at hq
        simp only [Option.some.injEq, Prod.mk.injEq] at hq
        obtain ⟨rfl, rfl⟩ := hq
        obtain ⟨a, ha, hae⟩ := List.mem_iff_getElem.1 hx
        rw [List.getElem_eraseIdx] at hae
        rw [List.length_eraseIdx] at ha
        rw [if_pos hjl] at ha
        split at hae
        · rename_i haj
          exact hp a j (by omega) hjl haj (by rw [hae, hje])
        · rename_i haj
          exact hp j (a + 1) hjl (by omega) (by omega) (by rw [hae, hje])
      exact ⟨q, by rw [List.getElem?_set, if_neg hne]; exact hq⟩
    · rintro ⟨q, hq⟩
      rw [List.getElem?_set] at hq
      have hne : i ≠ k := by
        rintro rfl
        rw [if_pos rfl, if_pos hil] at hq
        cases hq
      rw [if_neg hne] at hq
      have hx := (h.keys u k).2 ⟨q, hq⟩
      obtain ⟨a, ha, hae⟩ := List.mem_iff_getElem.1 hx
      have haj : a ≠ j := by
        rintro rfl
        rw [hje] at hae
        simp only [Prod.mk.injEq, Value.int.injEq, true_and] at hae
        omega
      refine List.mem_iff_getElem?.2 ?_
      rcases Nat.lt_or_ge a j with h1 | h1
      · exact ⟨a, by rw [List.getElem?_eraseIdx, if_pos h1, List.getElem?_eq_getElem ha, hae]⟩
      · exact ⟨a - 1, by rw [List.getElem?_eraseIdx, if_neg (by omega), show a - 1 + 1 = a by omega, List.getElem?_eq_getElem ha, hae]⟩
  · have h1 := countP_set (fun e : En => e.2.isSome) E i _ (vz, none) hi
    simp only [Option.isSome_some, if_true, Option.isSome_none, Bool.false_eq_true, if_false] at h1
    have h2 := h.ml
    have hjl := (List.getElem?_eq_some_iff.1 hj).1
    rw [List.length_eraseIdx, if_pos hjl]
    omega
/-- Put in. -/
theorem Vt.put (h : Vt w b T m c E M) {i : Nat} {v u : Vp} {p : Nat} (hi : E[i]? = some (u, none)) (hv : ∀ (i p : Nat), E[i]? ≠ some (v, some p))
    (ho : At w' T 170 (tc c (E.set i (v, some p)) m)) (hm : Mk Try.prog 86 w' m (M ++ [(.agg (vpc v), .int .i64 (i : Nat))])) : Vt w' b T m c (E.set i (v, some p)) (M ++ [(.agg (vpc v), .int .i64 (i : Nat))]) := by
  have hil := (List.getElem?_eq_some_iff.1 hi).1
  refine ⟨ho, hm, h.bT, h.bm, by rw [List.length_set]; exact h.len, ?_, ?_, ?_⟩
  · intro x hx
    rcases List.mem_append.1 hx with hx | hx
    · exact h.form x hx
    · simp only [List.mem_singleton] at hx
      exact ⟨v, i, hx⟩
  · intro y k
    constructor
    · intro hx
      rcases List.mem_append.1 hx with hx | hx
      · obtain ⟨q, hq⟩ := (h.keys y k).1 hx
        refine ⟨q, ?_⟩
        rw [List.getElem?_set]
        split
        · rename_i hik
          subst hik
          rw [hi] at hq; cases hq
        · exact hq
      · simp only [List.mem_singleton, Prod.mk.injEq, Value.agg.injEq, Value.int.injEq, true_and] at hx
        obtain ⟨h1, h2⟩ := hx
        obtain rfl := Vp.inj h1
        obtain rfl : k = i := by omega
        exact ⟨p, by rw [List.getElem?_set, if_pos rfl, if_pos hil]⟩
    · rintro ⟨q, hq⟩
      rw [List.getElem?_set] at hq
      split at hq
      · rename_i hik
        subst hik
        simp only [Option.some.injEq, Prod.mk.injEq] at hq
        obtain ⟨rfl, rfl⟩ := hq
        exact List.mem_append.2 (.inr (by simp))
      · exact List.mem_append.2 (.inl ((h.keys y k).2 ⟨q, hq⟩))
  · have h1 := countP_set (fun e : En => e.2.isSome) E i _ (v, some p) hi
    simp only [Option.isSome_some, if_true, Option.isSome_none, Bool.false_eq_true, if_false] at h1
    have h2 := h.ml
    rw [List.length_append, List.length_singleton]
    omega
end
end Go.Proofs.Ythfgccibiajneaa

/-
  The table: Remove.
-/
namespace Go.Proofs.Ythfgccibiajneaa
open Go.RowKit
theorem exec_bldEn (parts : Array (Nat × Operand)) (dst : Option Tmp) (ty : TypeId) (pos : String) (after : Array Edge) (g : Option (Nat × Bool)) (f : Operand → Value) (w : World) :
    (execOp f ⟨dst, .build 167 parts, ty, pos, after, g⟩).run Try.prog w = bldX Try.prog 167 (parts.map fun (i, x) => (i, f x)) w := rfl
attribute [local go_sem ↓] exec_bldEn
def en0 : En := (vz, none)
theorem build_en0 (w : World) : bldX Try.prog 167 #[] w = .ok (.value (.agg (ec en0))) w := bldX_of w (by kernel_rfl)
theorem sizeEn : (Try.prog.info? 167).map (·.size) = some 20 := by kernel_rfl
theorem ec_one (e : En) : (ec e).all (·.oneCell') = true := by
  rw [Array.all_eq_true']
  intro u hu
  have hu : u ∈ enl e := by simpa [ec] using hu
  rcases List.mem_append.1 hu with hu | hu
  · have := vp_one e.1
    rw [Array.all_eq_true'] at this
    exact this u (by simpa [vpc] using hu)
  · simp only [List.mem_singleton] at hu
    subst hu
    cases e.2 <;> rfl
section
variable {w w' : World} {b T m : Nat} {c : Cf} {E : List En} {M : List (Value × Value)}
theorem Vt.ne (h : Vt w b T m c E M) : T ≠ m := h.mp.notAt h.obj
/-- An entry written. -/
theorem en_store (h : At w T 170 (tc c E m)) (hl : E.length = 16) {i : Nat} (hi : i < 16) (e : En) : (storeCells ⟨T, 48 + i * 20, none⟩ (ec e).toList 0).run Try.prog w = .ok () (w.setCells T (48 + i * 20) (ec e).toList) ∧ At (w.setCells T (48 + i * 20) (ec e).toList) T 170 (tc c (E.set i e) m) ∧ Mod (fun g => g = T) w (w.setCells T (48 + i * 20) (ec e).toList) := by
  refine ⟨store_at (P := Try.prog) w T (48 + i * 20) 170 _ (ec e) h (by rw [ec_size, tc_size hl]; omega) (ec_one e), ?_, Mod.setCells (M := fun g => g = T) rfl _ _ _⟩
  have := At.setCells (ec e).toList (48 + i * 20) w _ h
  rw [show (ec e).toList = enl e by simp [ec], tc_set i e (by rw [hl]; exact hi)] at this
  rw [show (ec e).toList = enl e by simp [ec]]
  exact this
theorem vrem_no (h : Vt w b T m c E M) (i : Int) (hh : hasE E i = false) : Calls Try.prog 50 #[.pointer (some ⟨T, 0, none⟩), .int .i64 i] w fun e w' => e = .returned (.int .i64 4) ∧ w' = w := by
  have H := Lib.hid h
  have HH := Lib.hid hh
  clear h hh
  go_enter Try.func50, Try.ntmps50
  go_wp2_with fail
  refine (vhas_any H.out i).mono ?_
  rintro e w1 ⟨rfl, rfl⟩
  rw [HH.out]
  go_wp2_with fail
  go_ret
  exact ⟨rfl, rfl⟩
set_option maxRecDepth 100000 in
set_option maxHeartbeats 4000000 in
theorem vrem_yes (h : Vt w b T m c E M) (i : Nat) (v : Vp) (p : Nat) (he : E[i]? = some (v, some p)) : Calls Try.prog 50 #[.pointer (some ⟨T, 0, none⟩), .int .i64 (i : Nat)] w fun e w' => e = .returned (.int .i64 0) ∧
    (∃ M', Vt w' b T m c (E.set i en0) M') ∧ Mod (fun g => g = T ∨ g = m) w w' := by
  have H := Lib.hid h
  have HE := Lib.hid he
  have hi : i < 16 := by have := (List.getElem?_eq_some_iff.1 he).1; rw [h.len] at this; exact this
  have hiz : (i : Int) < 16 := by omega
  have HH := Lib.hid (show hasE E (i : Int) = true by rw [hasE_at he]; rfl)
  obtain ⟨j, hj⟩ := h.mem he
  have HJ := Lib.hid hj
  clear h he hj
  go_enter Try.func50, Try.ntmps50
  go_wp2_with fail
  refine (vhas_any H.out i).mono ?_
  rintro e w1 ⟨rfl, rfl⟩
  rw [HH.out]
  have c1 := H.out.mcell
  obtain ⟨ha, hao⟩ := H.out.vp HE.out
  have lT := H.out.obj.lt
  obtain ⟨W2, hdel, hmp2, hm2, -⟩ := H.out.drew.mp.del_yes (P := Try.prog) vpMapT vpKeyed (key_vp v) HJ.out 0
  have HO2 := Lib.hid (H.out.drew.obj.mod hm2 H.out.ne)
  have HMP := Lib.hid hmp2
  have HMD := Lib.hid hm2
  have hne := H.out.ne
  clear hmp2 hm2
  go_wp2_with fail
  refine region_sq (fun g => g = m) [(0, true), (1, true), (2, true), (3, true), (4, true), (5, true), (6, true), (7, true), (8, true), (9, true), (10, true), (11, false)] (by kernel_rfl) (by kernel_rfl) (fun _ _ d _ _ h => by cases d <;> exact h) ?_
  repeat (first
    | (refine sq_yes rfl (by rfl) (fun w' hM => by ((try replace hM := hM.of_drew); obtain ⟨hR1, hR2, hR3⟩ := hM.rules; have hA := hM.agg; obtain ⟨hA1, hA2⟩ := hA; clear hM; go_simp; with_reducible rfl)) ?_; simp only [Act.put, List.setIfInBounds_toArray, List.set_cons_zero, List.set_cons_succ])
    | (refine sq_no rfl (by rfl) ?_; simp only [Act.put, List.setIfInBounds_toArray, List.set_cons_zero, List.set_cons_succ]))
  refine sq_do_yes rfl (by rfl) (fun K hK => ?_)
  go_wp2_with fail
  refine ⟨HMD.out, ?_⟩
  refine sq_end ?_
  have HM2 := Lib.hid ((Mod.refl (fun g => g = T ∨ g = m) w1).drew.trans (HMD.out.mono (fun g _ hg => .inr hg)))
  clear c1 ha hao lT hdel
  have lT := HO2.out.lt
  have f0 := HO2.out.frozen (48 + i * 20)
  obtain ⟨hst, hat, hms⟩ := en_store HO2.out H.out.len hi en0
  have HAT := Lib.hid hat
  have HMS := Lib.hid hms
  have hb := build_en0
  clear hat hms
  go_wp2_with fail
  go_ret
  exact ⟨rfl, ⟨_, H.out.drop HE.out HJ.out HAT.out (HMP.out.mod HMS.out (fun h => hne h.symm))⟩, HM2.out.trans (HMS.out.mono (fun g _ hg => .inl hg))⟩
end
end Go.Proofs.Ythfgccibiajneaa

/-
  The table: Find, Of; key.Vip.
-/
namespace Go.Proofs.Ythfgccibiajneaa
open Go.RowKit
theorem exec_bldV2 (parts : Array (Nat × Operand)) (dst : Option Tmp) (ty : TypeId) (pos : String) (after : Array Edge) (g : Option (Nat × Bool)) (f : Operand → Value) (w : World) :
    (execOp f ⟨dst, .build 86 parts, ty, pos, after, g⟩).run Try.prog w = bldX Try.prog 86 (parts.map fun (i, x) => (i, f x)) w := rfl
attribute [local go_sem ↓] exec_bldV2
theorem build_vip (k : Ky) (w : World) : bldX Try.prog 86 #[(0, .int .u8 (k.proto : Nat)), (1, .agg (ac k.dst)), (2, .int .u16 (k.dp : Nat))] w = .ok (.value (.agg (vpc (kvip k)))) w := by
  refine bldX_of w ?_
  obtain ⟨pr, src, ⟨v6, b, hb, hlt⟩, sp, dp, h1, h2, h3⟩ := k
  obtain ⟨b0, b1, b2, b3, b4, b5, b6, b7, b8, b9, b10, b11, b12, b13, b14, b15, rfl⟩ : ∃ b0 b1 b2 b3 b4 b5 b6 b7 b8 b9 b10 b11 b12 b13 b14 b15, b = [b0, b1, b2, b3, b4, b5, b6, b7, b8, b9, b10, b11, b12, b13, b14, b15] := by
    match b, hb with
    | [b0, b1, b2, b3, b4, b5, b6, b7, b8, b9, b10, b11, b12, b13, b14, b15], _ => exact ⟨_, _, _, _, _, _, _, _, _, _, _, _, _, _, _, _, rfl⟩
  kernel_rfl
set_option maxRecDepth 100000 in
set_option maxHeartbeats 4000000 in
theorem kvip_any (k : Ky) (w : World) : Calls Try.prog 104 #[.agg (kc k)] w fun e w' => e = .returned (.agg (vpc (kvip k))) ∧ Below w.heap.size w w' := by
  have hb := build_vip k
  have hst := fun (w : World) (n : Nat) (Z : Array Value) (hn : n = w.heap.size) (hZ : Z.size = 19) => store_new (P := Try.prog) sizeVp w n Z (vpc (kvip k)) hn hZ (vpc_size _) (vp_one _)
  go_enter Try.func104, Try.ntmps104
  go_wp2_with fail
  exact bodyPost_ret (results_cell_row rfl _ _ (w.heap.size + 1) 86 (vpc (kvip k)) (0, 0) _ rfl (at_new _ 86 _ _ (by simp)) Try.underlying86 rfl (by rw [vpc_size]; exact sizeVp)) rfl ⟨rfl, ((Below.refl _ w).alloc (Nat.le_refl _) _).alloc (by simp) _⟩
theorem zeroIn (w : World) : (zeroValue 3).run Try.prog w = .ok (.int .i64 0) w := by
  have h : (Try.prog.info? 3).map (fun i => (i.zero, i.size, i.bytes)) = some (some (.int .i64 0), 1, 8) := by kernel_rfl
  obtain ⟨i0, hi0, hz0, -, -⟩ := info_parts h
  simp [zeroValue, typeInfo, hi0, hz0, Result.andThen]
/-- Where a VIP is. -/
def whereE (E : List En) (v : Vp) : Option Nat := E.findIdx? fun e => decide (e.1 = v) && e.2.isSome
theorem whereE_some {E : List En} {v : Vp} {i : Nat} (h : whereE E v = some i) : ∃ p, E[i]? = some (v, some p) := by
  obtain ⟨hi, h1, _⟩ := List.findIdx?_eq_some_iff_getElem.1 h
  rw [Bool.and_eq_true, decide_eq_true_eq] at h1
  obtain ⟨h1, h2⟩ := h1
  obtain ⟨p, hp⟩ := Option.isSome_iff_exists.1 h2
  exact ⟨p, by rw [List.getElem?_eq_getElem hi]; exact congrArg some (Prod.ext h1 hp)⟩
theorem whereE_none {E : List En} {v : Vp} (h : whereE E v = none) (i p : Nat) : E[i]? ≠ some (v, some p) := by
  intro hi
  have := List.findIdx?_eq_none_iff.1 h _ (List.mem_of_getElem? hi)
  simp at this
section
variable {w w' : World} {b T m : Nat} {c : Cf} {E : List En} {M : List (Value × Value)}
set_option maxRecDepth 100000 in
set_option maxHeartbeats 4000000 in
theorem vfind_yes (h : Vt w b T m c E M) (v : Vp) (i p : Nat) (hv : E[i]? = some (v, some p)) : Calls Try.prog 66 #[.pointer (some ⟨T, 0, none⟩), .agg (vpc v)] w fun e w' =>
    e = .returned (.tuple #[.int .i64 (i : Nat), .bool true]) ∧ Below w.heap.size w w' := by
  obtain ⟨g, hg⟩ : ∃ g, g = w.heap.size := ⟨_, rfl⟩
  have HX := Lib.hid (at_new w 86 (vpc v) g hg)
  have HB := Lib.hid ((Below.refl w.heap.size w).alloc (Nat.le_refl _) (.cells (vpc v) 86))
  have H := Lib.hid (h.alloc (.cells (vpc v) 86))
  have HV := Lib.hid hv
  clear h hv
  go_enter Try.func66, Try.ntmps66
  go_upto_region 1 with fail
  rw [← hg]
  clear hg
  generalize w.alloc (.cells (vpc v) 86) = W at *
  have c1 := H.out.mcell
  have lT := H.out.obj.lt
  obtain ⟨ha, hao⟩ := HX.out.agg 0 19 (by rw [vpc_size]; omega)
  rw [show 0 + 19 = 19 from rfl, vpc_all] at ha
  have lg := HX.out.lt
  have hlk := H.out.drew.mp.lookup_yes (P := Try.prog) vpMapT vpKeyed (key_vp v) ((H.out.keys v i).2 ⟨p, HV.out⟩) true
  simp only [if_true] at hlk
  go_wp2_with fail
  refine region_sq (fun _ => False) [(0, true), (1, true), (2, true), (3, true), (4, true), (5, false), (6, true), (7, true), (8, true), (9, true), (10, true)] (by kernel_rfl) (by kernel_rfl) (fun _ _ d _ _ h => by cases d <;> exact h) ?_
  repeat (first
    | (refine sq_yes rfl (by rfl) (fun w' hM => by ((try replace hM := hM.of_drew); obtain ⟨hR1, hR2, hR3⟩ := hM.rules; have hA := hM.agg; obtain ⟨hA1, hA2⟩ := hA; clear hM; go_simp; with_reducible rfl)) ?_; simp only [Act.put, List.setIfInBounds_toArray, List.set_cons_zero, List.set_cons_succ])
    | (refine sq_no rfl (by rfl) ?_; simp only [Act.put, List.setIfInBounds_toArray, List.set_cons_zero, List.set_cons_succ]))
  refine sq_do_yes rfl (by rfl) (fun K hK => ?_)
  go_wp2_with fail
  refine ⟨Mod.refl _ _, ?_⟩
  repeat (first
    | (refine sq_yes rfl (by rfl) (fun w' hM => by ((try replace hM := hM.of_drew); obtain ⟨hR1, hR2, hR3⟩ := hM.rules; have hA := hM.agg; obtain ⟨hA1, hA2⟩ := hA; clear hM; go_simp; with_reducible rfl)) ?_; simp only [Act.put, List.setIfInBounds_toArray, List.set_cons_zero, List.set_cons_succ])
    | (refine sq_no rfl (by rfl) ?_; simp only [Act.put, List.setIfInBounds_toArray, List.set_cons_zero, List.set_cons_succ]))
  refine sq_end ?_
  go_wp2_with fail
  go_ret2
  exact ⟨rfl, HB.out.drew⟩
set_option maxRecDepth 100000 in
set_option maxHeartbeats 4000000 in
theorem vfind_no (h : Vt w b T m c E M) (v : Vp) (hv : ∀ (i p : Nat), E[i]? ≠ some (v, some p)) : Calls Try.prog 66 #[.pointer (some ⟨T, 0, none⟩), .agg (vpc v)] w fun e w' =>
    e = .returned (.tuple #[.int .i64 0, .bool false]) ∧ Below w.heap.size w w' := by
  obtain ⟨g, hg⟩ : ∃ g, g = w.heap.size := ⟨_, rfl⟩
  have HX := Lib.hid (at_new w 86 (vpc v) g hg)
  have HB := Lib.hid ((Below.refl w.heap.size w).alloc (Nat.le_refl _) (.cells (vpc v) 86))
  have H := Lib.hid (h.alloc (.cells (vpc v) 86))
  have HV := Lib.hid hv
  clear h hv
  go_enter Try.func66, Try.ntmps66
  go_upto_region 1 with fail
  rw [← hg]
  clear hg
  generalize w.alloc (.cells (vpc v) 86) = W at *
  have c1 := H.out.mcell
  have lT := H.out.obj.lt
  obtain ⟨ha, hao⟩ := HX.out.agg 0 19 (by rw [vpc_size]; omega)
  rw [show 0 + 19 = 19 from rfl, vpc_all] at ha
  have lg := HX.out.lt
  have hlk := H.out.drew.mp.lookup_no (P := Try.prog) vpMapT (zeroIn _) vpKeyed (key_vp v) (H.out.out HV.out) true
  simp only [if_true] at hlk
  go_wp2_with fail
  refine region_sq (fun _ => False) [(0, true), (1, true), (2, true), (3, true), (4, true), (5, false), (6, true), (7, true), (8, true), (9, true), (10, true)] (by kernel_rfl) (by kernel_rfl) (fun _ _ d _ _ h => by cases d <;> exact h) ?_
  repeat (first
    | (refine sq_yes rfl (by rfl) (fun w' hM => by ((try replace hM := hM.of_drew); obtain ⟨hR1, hR2, hR3⟩ := hM.rules; have hA := hM.agg; obtain ⟨hA1, hA2⟩ := hA; clear hM; go_simp; with_reducible rfl)) ?_; simp only [Act.put, List.setIfInBounds_toArray, List.set_cons_zero, List.set_cons_succ])
    | (refine sq_no rfl (by rfl) ?_; simp only [Act.put, List.setIfInBounds_toArray, List.set_cons_zero, List.set_cons_succ]))
  refine sq_do_yes rfl (by rfl) (fun K hK => ?_)
  go_wp2_with fail
  refine ⟨Mod.refl _ _, ?_⟩
  repeat (first
    | (refine sq_yes rfl (by rfl) (fun w' hM => by ((try replace hM := hM.of_drew); obtain ⟨hR1, hR2, hR3⟩ := hM.rules; have hA := hM.agg; obtain ⟨hA1, hA2⟩ := hA; clear hM; go_simp; with_reducible rfl)) ?_; simp only [Act.put, List.setIfInBounds_toArray, List.set_cons_zero, List.set_cons_succ])
    | (refine sq_no rfl (by rfl) ?_; simp only [Act.put, List.setIfInBounds_toArray, List.set_cons_zero, List.set_cons_succ]))
  refine sq_end ?_
  go_wp2_with fail
  go_ret2
  exact ⟨rfl, HB.out.drew⟩
theorem vfind_any (h : Vt w b T m c E M) (v : Vp) : Calls Try.prog 66 #[.pointer (some ⟨T, 0, none⟩), .agg (vpc v)] w fun e w' =>
    e = .returned (.tuple #[.int .i64 ((whereE E v).getD 0 : Nat), .bool (whereE E v).isSome]) ∧ Below w.heap.size w w' := by
  cases hw : whereE E v with
  | some i =>
    obtain ⟨p, hp⟩ := whereE_some hw
    exact vfind_yes h v i p hp
  | none => exact vfind_no h v (whereE_none hw)
theorem vfind_nil (v : Vp) (w : World) : Calls Try.prog 66 #[.pointer none, .agg (vpc v)] w fun e w' =>
    e = .returned (.tuple #[.int .i64 0, .bool false]) ∧ Below w.heap.size w w' := by
  go_enter Try.func66, Try.ntmps66
  go_wp2_with fail
  go_ret2
  exact ⟨rfl, (Below.refl w.heap.size w).alloc (Nat.le_refl _) _⟩
/-- A flow's VIP: where it is, if the flow may be. -/
def ofE (E : List En) (k : Ky) : Option Nat := if kvld k then whereE E (kvip k) else none
set_option maxRecDepth 100000 in
set_option maxHeartbeats 4000000 in
theorem vof_any (h : Vt w b T m c E M) (k : Ky) : Calls Try.prog 52 #[.pointer (some ⟨T, 0, none⟩), .agg (kc k)] w fun e w' =>
    e = .returned (.tuple #[.int .i64 ((ofE E k).getD 0 : Nat), .bool (ofE E k).isSome]) ∧ Below w.heap.size w w' := by
  obtain ⟨g, hg⟩ : ∃ g, g = w.heap.size := ⟨_, rfl⟩
  have HX := Lib.hid (at_new w 31 (kc k) g hg)
  have HB := Lib.hid ((Below.refl w.heap.size w).alloc (Nat.le_refl _) (.cells (kc k) 31))
  have H := Lib.hid (h.alloc (.cells (kc k) 31))
  have HK := Lib.hid (show ofE E k = if kvld k then whereE E (kvip k) else none from rfl)
  generalize ofE E k = R at *
  clear h
  go_enter Try.func52, Try.ntmps52
  go_upto_region 1 with fail
  rw [← hg]
  clear hg
  generalize w.alloc (.cells (kc k) 31) = W at *
  have r1 := HX.out.row
  have o1 := HX.out.open
  have l1 := HX.out.lt
  go_wp2_with fail
  refine (kvalid_any k _).mono ?_
  rintro e w1 ⟨rfl, hb⟩
  replace H := Lib.hid (H.out.below hb)
  replace HX := Lib.hid (HX.out.below hb HX.out.lt)
  replace HB := Lib.hid (step_below HB.out hb)
  clear hb r1 o1 l1
  have r1 := HX.out.row
  have o1 := HX.out.open
  have l1 := HX.out.lt
  cases hv : kvld k with
  | false =>
    have HR := Lib.hid (show R = none by rw [HK.out, hv]; rfl)
    clear hv
    go_wp2_with fail
    go_ret2
    exact ⟨by rw [HR.out]; rfl, HB.out⟩
  | true =>
    have HR := Lib.hid (show R = whereE E (kvip k) by rw [HK.out, hv]; rfl)
    clear hv
    go_wp2_with fail
    refine (kvip_any k _).mono ?_
    rintro e w2 ⟨rfl, hb⟩
    replace H := Lib.hid (H.out.below hb)
    replace HB := Lib.hid (step_below HB.out hb)
    clear hb r1 o1 l1
    go_wp2_with fail
    refine (vfind_any H.out (kvip k)).mono ?_
    rintro e w3 ⟨rfl, hb⟩
    rw [← HR.out]
    replace HB := Lib.hid (step_below HB.out hb)
    clear hb
    go_wp2_with fail
    go_ret2
    exact ⟨rfl, HB.out⟩
end
end Go.Proofs.Ythfgccibiajneaa

/-
  vips.New.
-/
namespace Go.Proofs.Ythfgccibiajneaa
open Go.RowKit Go.Shelf
theorem exec_bldT (parts : Array (Nat × Operand)) (dst : Option Tmp) (ty : TypeId) (pos : String) (after : Array Edge) (g : Option (Nat × Bool)) (f : Operand → Value) (w : World) :
    (execOp f ⟨dst, .build 170 parts, ty, pos, after, g⟩).run Try.prog w = bldX Try.prog 170 (parts.map fun (i, x) => (i, f x)) w := rfl
attribute [local go_sem ↓] exec_bldT
def E0 : List En := List.replicate 16 en0
noncomputable def zT : Array Value := match (Try.prog.info? 170).bind (·.zero) with | some z => z.cells | none => #[]
theorem zT_size : zT.size = 369 := by kernel_rfl
theorem zT_mid : zT.extract 48 368 = (E0.flatMap enl).toArray := by kernel_rfl
theorem builtT_fill (X : List (Nat × Value)) : Try.prog.built 170 X = Instr.fill (#[(0, 48), (48, 320), (368, 1)][·]?) zT X := by kernel_rfl
set_option maxRecDepth 100000 in
theorem built_tc (c : Cf) (m : Nat) : Try.prog.built 170 [(0, .agg (cc c)), (2, .map (some m))] = some (tc c E0 m) := by
  have hz := zT_size
  have hm := zT_mid
  rw [builtT_fill]
  generalize zT = z at hz hm ⊢
  have hc : (Value.agg (cc c)).cells = cc c := rfl
  have h1 : Instr.fill (#[(0, 48), (48, 320), (368, 1)][·]?) z [(0, .agg (cc c)), (2, .map (some m))] = some ((splice z 0 (cc c).toList).setIfInBounds 368 (.map (some m))) := by
    have hf : (cc c).zipIdx.foldl (fun cs (x : Value × Nat) => cs.setIfInBounds (0 + x.2) x.1) z = splice z 0 (cc c).toList := by
      rw [← foldl_spliceP 0 (cc c).toList 0 z, ← Array.foldl_toList, Array.toList_zipIdx]
    simp only [Instr.fill, List.getElem?_toArray, List.getElem?_cons_zero, List.getElem?_cons_succ, hc, cc_size]
    rw [if_neg (by simp [hz])]
    rw [hf]
    simp [Value.cells, splice_size, hz]
  rw [h1]
  have hE : E0.length = 16 := rfl
  refine congrArg some (Array.ext_getElem? ?_)
  intro j
  simp only [Array.getElem?_setIfInBounds, splice_size, hz]
  rw [splice_get _ _ _ _ (by simp [cc_size, hz])]
  rcases Nat.lt_or_ge j 48 with h | h
  · rw [if_neg (by omega), if_pos (by simp [cc_size]; omega), tc_lo j h]
    simp
  · rcases Nat.lt_or_ge j 368 with h2 | h2
    · obtain ⟨k, rfl⟩ : ∃ k, j = 48 + k := ⟨j - 48, by omega⟩
      have hl := tc_len (E := E0)
      rw [hE] at hl
      rw [if_neg (by omega), if_neg (by simp [cc_size])]
      have h3 := congrArg (fun a : Array Value => a[k]?) hm
      rw [Array.getElem?_extract, if_pos (by omega)] at h3
      rw [h3]
      unfold tc
      rw [Array.getElem?_append_left (by rw [Array.size_append, cc_size, List.size_toArray, hl]; omega), Array.getElem?_append_right (by rw [cc_size]; omega), cc_size, show 48 + k - 48 = k by omega]
    · by_cases h4 : j = 368
      · subst h4
        rw [if_pos rfl, if_pos (by omega), tc_map hE]
      · rw [if_neg (by omega), if_neg (by simp [cc_size]; omega), Array.getElem?_eq_none (by rw [hz]; omega), Array.getElem?_eq_none (by rw [tc_size hE]; omega)]
theorem build_tc (c : Cf) (m : Nat) (w : World) : bldX Try.prog 170 #[(0, .agg (cc c)), (2, .map (some m))] w = .ok (.value (.agg (tc c E0 m))) w := bldX_of w (built_tc c m)
theorem Vt.fresh (w : World) (c : Cf) (B T m : Nat) (hT : At w T 170 (tc c E0 m)) (hm : Mk Try.prog 86 w m []) (h1 : B ≤ T) (h2 : B ≤ m) : Vt w B T m c E0 [] := by
  have hE : ∀ (i : Nat) (e : En), E0[i]? = some e → e = en0 := fun i e he => by
    unfold E0 at he
    rw [List.getElem?_replicate] at he
    split at he
    · exact (Option.some.inj he).symm
    · cases he
  exact ⟨hT, hm, h1, h2, rfl, fun x hx => (by cases hx), fun v i => ⟨fun hx => (by cases hx), fun ⟨p, hp⟩ => (by have := hE _ _ hp; simp [en0] at this)⟩, rfl⟩
set_option maxRecDepth 100000 in
set_option maxHeartbeats 4000000 in
theorem vnew_no (c : Cf) (w : World) (hc : cok c = false) : Calls Try.prog 46 #[.agg (cc c)] w fun e w' => e = .returned (.tuple #[.pointer none, .int .i64 1]) ∧ Below w.heap.size w w' := by
  have H := Lib.hid (chk_no c hc)
  clear hc
  go_enter Try.func46, Try.ntmps46
  go_upto_region 1 with fail
  obtain ⟨bc, hbc⟩ : ∃ bc, bc = w.heap.size := ⟨_, rfl⟩
  rw [← hbc]
  have HC := Lib.hid (at_new w 27 (cc c) bc hbc)
  have HB := Lib.hid ((Below.refl w.heap.size w).alloc (Nat.le_refl _) (.cells (cc c) 27))
  clear hbc
  generalize w.alloc (.cells (cc c) 27) = W at *
  have r1 := HC.out.row
  have o1 := HC.out.open
  have l1 := HC.out.lt
  go_wp2_with fail
  refine (check_any c _).mono ?_
  rintro e w1 ⟨rfl, hb⟩
  rw [H.out]
  have HB1 := Lib.hid (step_below HB.out hb)
  clear r1 o1 l1 hb
  go_wp2_with fail
  go_ret2
  exact ⟨rfl, HB1.out⟩
set_option maxRecDepth 100000 in
set_option maxHeartbeats 4000000 in
theorem vnew_any (c : Cf) (w : World) (hc : cok c = true) : Calls Try.prog 46 #[.agg (cc c)] w fun e w' => ∃ T m, e = .returned (.tuple #[.pointer (some ⟨T, 0, none⟩), .int .i64 0]) ∧ Vt w' w.heap.size T m c E0 [] ∧ Below w.heap.size w w' := by
  have H := Lib.hid (chk_yes c hc)
  clear hc
  go_enter Try.func46, Try.ntmps46
  go_upto_region 1 with fail
  obtain ⟨bc, hbc⟩ : ∃ bc, bc = w.heap.size := ⟨_, rfl⟩
  rw [← hbc]
  have HC := Lib.hid (at_new w 27 (cc c) bc hbc)
  have HB := Lib.hid ((Below.refl w.heap.size w).alloc (Nat.le_refl _) (.cells (cc c) 27))
  clear hbc
  generalize w.alloc (.cells (cc c) 27) = W at *
  have r1 := HC.out.row
  have o1 := HC.out.open
  have l1 := HC.out.lt
  go_wp2_with fail
  refine (check_any c _).mono ?_
  rintro e w1 ⟨rfl, hb⟩
  rw [H.out]
  have HB1 := Lib.hid (step_below HB.out hb)
  replace HC := Lib.hid (HC.out.below hb HC.out.lt)
  clear r1 o1 l1 hb HB
  have r1 := HC.out.row
  have o1 := HC.out.open
  have l1 := HC.out.lt
  have hmk := run_makeMap Try.prog w1 165
  have hbt := build_tc c w1.heap.size
  go_wp2_with fail
  go_ret2
  have HM := (Mk.new Try.prog 86 w1).alloc (.cells (tc c E0 w1.heap.size) 170)
  have hle := HB1.out.size
  exact ⟨w1.heap.size + 1, w1.heap.size, rfl, Vt.fresh _ _ _ _ _ (at_new _ _ _ _ (by simp)) HM (by omega) hle, (HB1.out.alloc hle _).alloc (by simp; omega) _⟩
end Go.Proofs.Ythfgccibiajneaa

/-
  IndexFunc and ContainsFunc over members, for whatever closure.
-/
namespace Go.Proofs.Ythfgccibiajneaa
open Go.RowKit Go.Shelf
/-- What IndexFunc tells. -/
def idxI {α : Type} (q : α → Bool) (M : List α) : Int := match M.findIdx? q with | some k => (k : Nat) | none => -1
theorem idxI_at {α : Type} (q : α → Bool) (M : List α) {j : Nat} {x : α} (hx : M[j]? = some x) (hq : q x = true) (hz : ∀ z ∈ M.take j, q z = false) : idxI q M = (j : Nat) := by
  unfold idxI
  have : M.findIdx? q = some j := by
    obtain ⟨hj, hjx⟩ := List.getElem?_eq_some_iff.1 hx
    refine List.findIdx?_eq_some_iff_getElem.2 ⟨hj, by rw [hjx]; exact hq, fun i hi => ?_⟩
    have := hz M[i] (List.mem_take_iff_getElem.2 ⟨i, by omega, rfl⟩)
    rw [this]; simp
  rw [this]
theorem idxI_no {α : Type} (q : α → Bool) (M : List α) (hz : ∀ z ∈ M, q z = false) : idxI q M = -1 := by
  unfold idxI
  rw [List.findIdx?_eq_none_iff.2 hz]
set_option maxRecDepth 100000 in
set_option maxHeartbeats 2000000 in
theorem midx_any {F : Nat} (caps : Array Value) (q : Mb → Bool) (n1 c1 : Nat) (a1 : Option Addr) (M : List Mb) (w : World) (hm : Rd 19 Mb.l w a1 n1 M) (hn1 : n1 ≤ 1000000) (eg : Enters Try.prog F)
    (hc : ∀ x wr, x ∈ M → Below w.heap.size w wr → Calls Try.prog F (#[.agg (mc x)] ++ caps) wr fun e w' => e = .returned (.bool (q x)) ∧ Below wr.heap.size wr w') :
    Calls Try.prog 117 #[.slice a1 n1 c1, .func (.func F) #[] caps] w fun e w' => e = .returned (.int .i64 (idxI q M)) ∧ Below w.heap.size w w' := by
  have HM := Lib.hid hm
  have hn : n1 = M.length := hm.1.symm
  have HN := Lib.hid hn
  have HC := Lib.hid hc
  clear hm hn hc
  go_enter Try.func117, Try.ntmps117
  go_wp2_with fail
  go_loopw [5, 8] (fun _ s8 wr => ∃ j : Nat, j ≤ n1 ∧ s8 = .int .i64 j ∧ Below w.heap.size w wr ∧ (∀ z ∈ M.take j, q z = false)) (fun _ s8 _ => n1 - (intOf s8).toNat)
  case atStart => exact ⟨0, Nat.zero_le _, rfl, Below.refl _ _, by simp⟩
  case round =>
    obtain ⟨j, hj, rfl, hb, hz⟩ := hrel
    have HB := Lib.hid hb
    have HZ := Lib.hid hz
    clear hz
    by_cases hlt : j < n1
    · have hltz : (j : Int) < (n1 : Int) := by omega
      obtain ⟨x, hx⟩ : ∃ x, M[j]? = some x := ⟨_, List.getElem?_eq_getElem (by have := HN.out; omega)⟩
      have HX := Lib.hid hx
      obtain ⟨b, o, rfl, hbl, ha, hao⟩ := (HM.out.below HB.out).agg Mb.len hx
      rw [show (Mb.l x).toArray = mc x from rfl] at ha
      have hcall := HC.out x wr (List.mem_of_getElem? hx) HB.out
      clear hb hx
      cases hq : q x with
      | true =>
        rw [hq] at hcall
        go_wp2_with fail
        rw [eg, Oper.upon_enter]
        refine hcall.mono ?_
        rintro e w' ⟨rfl, hb'⟩
        have HC := Lib.hid (step_below HB.out hb')
        clear hb'
        go_wp2_with fail
        go_ret
        exact ⟨by rw [idxI_at q M HX.out hq HZ.out]; rfl, HC.out⟩
      | false =>
        rw [hq] at hcall
        go_wp2_with fail
        rw [eg, Oper.upon_enter]
        refine hcall.mono ?_
        rintro e w' ⟨rfl, hb'⟩
        have HC := Lib.hid (step_below HB.out hb')
        clear hb'
        go_wp2_with fail
        go_roundw
        case rel =>
          refine ⟨j + 1, by omega, by simp, HC.out, fun z hz => ?_⟩
          rw [List.take_add_one, HX.out] at hz
          rcases List.mem_append.1 hz with hz | hz
          · exact HZ.out z hz
          · simp only [Option.toList_some, List.mem_singleton] at hz
            subst hz
            exact hq
        case measure => simp [intOf] <;> omega
    · have hltz : ¬ (j : Int) < (n1 : Int) := by omega
      go_wp2_with fail
      go_ret
      have hnn := HN.out
      have hz := HZ.out
      rw [List.take_of_length_le (by omega)] at hz
      exact ⟨by rw [idxI_no q M hz]; rfl, HB.out⟩
theorem loadEn (x : Operand) (dst : Option Tmp) (t : TypeId) (pos : String) (after : Array Edge) (g : Option (Nat × Bool)) (f : Operand → Value) (w : World)
    (hx : plainPtr (f x) = true) (ho : aggOk w (blk (f x)) (offOf (f x)) 20 = true) :
    (execOp f ⟨dst, .load 167 x, t, pos, after, g⟩).run Try.prog w = .ok (.value (.agg (aggAt w (blk (f x)) (offOf (f x)) 20))) w :=
  exec_load_agg 167 _ 20 Try.underlying167 rfl sizeEn x dst t pos after g f w hx ho
attribute [go_sem ↓] loadEn
set_option maxRecDepth 100000 in
set_option maxHeartbeats 2000000 in
theorem eidx_any {F : Nat} (caps : Array Value) (q : En → Bool) (n1 c1 : Nat) (a1 : Option Addr) (M : List En) (w : World) (hm : Rd 20 enl w a1 n1 M) (hn1 : n1 ≤ 1000000) (eg : Enters Try.prog F)
    (hc : ∀ x wr, x ∈ M → Below w.heap.size w wr → Calls Try.prog F (#[.agg (ec x)] ++ caps) wr fun e w' => e = .returned (.bool (q x)) ∧ Below wr.heap.size wr w') :
    Calls Try.prog 100 #[.slice a1 n1 c1, .func (.func F) #[] caps] w fun e w' => e = .returned (.int .i64 (idxI q M)) ∧ Below w.heap.size w w' := by
  have HM := Lib.hid hm
  have hn : n1 = M.length := hm.1.symm
  have HN := Lib.hid hn
  have HC := Lib.hid hc
  clear hm hn hc
  go_enter Try.func100, Try.ntmps100
  go_wp2_with fail
  go_loopw [5, 8] (fun _ s8 wr => ∃ j : Nat, j ≤ n1 ∧ s8 = .int .i64 j ∧ Below w.heap.size w wr ∧ (∀ z ∈ M.take j, q z = false)) (fun _ s8 _ => n1 - (intOf s8).toNat)
  case atStart => exact ⟨0, Nat.zero_le _, rfl, Below.refl _ _, by simp⟩
  case round =>
    obtain ⟨j, hj, rfl, hb, hz⟩ := hrel
    have HB := Lib.hid hb
    have HZ := Lib.hid hz
    clear hz
    by_cases hlt : j < n1
    · have hltz : (j : Int) < (n1 : Int) := by omega
      obtain ⟨x, hx⟩ : ∃ x, M[j]? = some x := ⟨_, List.getElem?_eq_getElem (by have := HN.out; omega)⟩
      have HX := Lib.hid hx
      obtain ⟨b, o, rfl, hbl, ha, hao⟩ := (HM.out.below HB.out).agg enl_len hx
      rw [show (enl x).toArray = ec x from rfl] at ha
      have hcall := HC.out x wr (List.mem_of_getElem? hx) HB.out
      clear hb hx
      cases hq : q x with
      | true =>
        rw [hq] at hcall
        go_wp2_with fail
        rw [eg, Oper.upon_enter]
        refine hcall.mono ?_
        rintro e w' ⟨rfl, hb'⟩
        have HC := Lib.hid (step_below HB.out hb')
        clear hb'
        go_wp2_with fail
        go_ret
        exact ⟨by rw [idxI_at q M HX.out hq HZ.out]; rfl, HC.out⟩
      | false =>
        rw [hq] at hcall
        go_wp2_with fail
        rw [eg, Oper.upon_enter]
        refine hcall.mono ?_
        rintro e w' ⟨rfl, hb'⟩
        have HC := Lib.hid (step_below HB.out hb')
        clear hb'
        go_wp2_with fail
        go_roundw
        case rel =>
          refine ⟨j + 1, by omega, by simp, HC.out, fun z hz => ?_⟩
          rw [List.take_add_one, HX.out] at hz
          rcases List.mem_append.1 hz with hz | hz
          · exact HZ.out z hz
          · simp only [Option.toList_some, List.mem_singleton] at hz
            subst hz
            exact hq
        case measure => simp [intOf] <;> omega
    · have hltz : ¬ (j : Int) < (n1 : Int) := by omega
      go_wp2_with fail
      go_ret
      have hnn := HN.out
      have hz := HZ.out
      rw [List.take_of_length_le (by omega)] at hz
      exact ⟨by rw [idxI_no q M hz]; rfl, HB.out⟩
/-- Are there servers of the other kind? -/
theorem kclo_any (bv : Nat) (v : Vp) (x : Mb) (w : World) (h : At w bv 86 (vpc v)) :
    Calls Try.prog 99 #[.agg (mc x), .pointer (some ⟨bv, 0, none⟩)] w fun e w' => e = .returned (.bool (x.d.a.v6 != v.a.v6)) ∧ Below w.heap.size w w' := by
  obtain ⟨bx, hbx⟩ : ∃ bx, bx = w.heap.size := ⟨_, rfl⟩
  have HX := Lib.hid (at_new w 95 (mc x) bx hbx)
  have HV := Lib.hid (h.alloc (.cells (mc x) 95))
  have HB := Lib.hid ((Below.refl w.heap.size w).alloc (Nat.le_refl _) (.cells (mc x) 95))
  clear h
  go_enter Try.func99, Try.ntmps99
  go_upto_region 1 with fail
  rw [← hbx]
  clear hbx
  generalize w.alloc (.cells (mc x) 95) = W at *
  have c1 := HX.out.cell 0
  have c2 := HV.out.cell 1
  rw [show (mc x)[0]? = some (.bool x.d.a.v6) from rfl] at c1
  rw [show (vpc v)[1]? = some (.bool v.a.v6) from rfl] at c2
  have l1 := HX.out.lt
  have l2 := HV.out.lt
  go_wp2_with fail
  go_ret
  exact ⟨rfl, HB.out⟩
theorem contains_any (bv : Nat) (v : Vp) (n1 c1 : Nat) (a1 : Option Addr) (M : List Mb) (w : World) (hm : Rd 19 Mb.l w a1 n1 M) (hn1 : n1 ≤ 1000000) (h : At w bv 86 (vpc v)) :
    Calls Try.prog 98 #[.slice a1 n1 c1, .func (.func 99) #[] #[.pointer (some ⟨bv, 0, none⟩)]] w fun e w' => e = .returned (.bool (M.any fun x => x.d.a.v6 != v.a.v6)) ∧ Below w.heap.size w w' := by
  have hi := Lib.hid (midx_any (c1 := c1) #[.pointer (some ⟨bv, 0, none⟩)] (fun x => x.d.a.v6 != v.a.v6) n1 a1 M w hm hn1 (enters_of Try.func99 (by kernel_rfl) rfl) (fun x wr _ hb => kclo_any bv v x wr (h.below hb h.lt)))
  have HR := Lib.hid (show (M.any fun x => x.d.a.v6 != v.a.v6) = decide (0 ≤ idxI (fun x : Mb => x.d.a.v6 != v.a.v6) M) by
    unfold idxI
    cases hf : M.findIdx? (fun x => x.d.a.v6 != v.a.v6) with
    | none =>
      rw [List.findIdx?_eq_none_iff] at hf
      have : (M.any fun x => x.d.a.v6 != v.a.v6) = false := by rw [List.any_eq_false]; exact fun x hx => by rw [hf x hx]; simp
      rw [this]; rfl
    | some k =>
      obtain ⟨hk, hq, _⟩ := List.findIdx?_eq_some_iff_getElem.1 hf
      have : (M.any fun x => x.d.a.v6 != v.a.v6) = true := List.any_eq_true.2 ⟨_, List.getElem_mem hk, hq⟩
      rw [this]; simp)
  generalize (M.any fun x => x.d.a.v6 != v.a.v6) = R at *
  clear hm h
  go_enter Try.func98, Try.ntmps98
  go_wp2_with fail
  refine hi.out.mono ?_
  rintro e w1 ⟨rfl, hb⟩
  have HB := Lib.hid hb
  generalize idxI (fun x : Mb => x.d.a.v6 != v.a.v6) M = I at *
  clear hb
  go_wp2_with fail
  go_ret
  exact ⟨by rw [HR.out]; rfl, HB.out⟩
theorem nclo_any (x : En) (w : World) :
    Calls Try.prog 101 #[.agg (ec x)] w fun e w' => e = .returned (.bool (!x.2.isSome)) ∧ Below w.heap.size w w' := by
  obtain ⟨bx, hbx⟩ : ∃ bx, bx = w.heap.size := ⟨_, rfl⟩
  have HX := Lib.hid (at_new w 167 (ec x) bx hbx)
  have HB := Lib.hid ((Below.refl w.heap.size w).alloc (Nat.le_refl _) (.cells (ec x) 167))
  have HC := Lib.hid (ec_19? x)
  generalize ec x = C at *
  cases hx : x.2 <;>
  · rw [hx] at HC
    clear hx
    go_enter Try.func101, Try.ntmps101
    go_upto_region 1 with fail
    rw [← hbx]
    clear hbx
    generalize w.alloc (.cells C 167) = W at *
    have c1 := HX.out.cell 19
    rw [HC.out] at c1
    simp only [ptrV, Option.map_some, Option.map_none] at c1
    have l1 := HX.out.lt
    go_wp2_with fail
    go_ret
    exact ⟨rfl, HB.out⟩
end Go.Proofs.Ythfgccibiajneaa
