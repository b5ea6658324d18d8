/-
  Texts in one, each behind those that it needs: PvOps, PvAwake.
-/
import Derived.Test.YthfgccibiajneaaBav
/-
  The table and all its pools: what Add, Remove, Pools, Vip tell.
-/
namespace Go.Proofs.Ythfgccibiajneaa
open Go.RowKit
/-- A pool that was made just now. -/
def Pd.isNew (d : Pd) (L : List Mb) (n nv : Nat) : Prop := d.vs = (List.replicate nv v0).set 0 ⟨d.sv, fillR [] L n, 0, false⟩ ∧ d.now = 0 ∧ d.L = L ∧ d.S = fillR [] L n
def AddX (w : World) (b T m : Nat) (c : Cf) (X : Xs) (v : Vp) (L : List Mb) (n nv : Nat) (e : Ending) (w' : World) : Prop :=
  (addOk c v L = false ∧ e = .returned (.tuple #[.int .i64 0, .int .i64 1]) ∧ Below w.heap.size w w') ∨
  (addOk c v L = true ∧ (∃ (i : Nat) (d : Pd), X[i]? = some (v, some d)) ∧ e = .returned (.tuple #[.int .i64 0, .int .i64 6]) ∧ Below w.heap.size w w') ∨
  (addOk c v L = true ∧ (∀ (i : Nat) (d : Pd), X[i]? ≠ some (v, some d)) ∧ (∀ x ∈ X, x.2.isSome = true) ∧ e = .returned (.tuple #[.int .i64 0, .int .i64 3]) ∧ Below w.heap.size w w') ∨
  (addOk c v L = true ∧ (∀ (i : Nat) (d : Pd), X[i]? ≠ some (v, some d)) ∧ ∃ (i : Nat) (u : Vp), X[i]? = some (u, none) ∧ (∀ x ∈ X.take i, x.2.isSome = true) ∧ e = .returned (.tuple #[.int .i64 (i : Nat), .int .i64 0]) ∧
    ∃ d : Pd, d.isNew L n nv ∧ w.heap.size ≤ d.p ∧ w.heap.size ≤ d.B ∧ Vx w' b T m c (X.set i (v, some d)) ∧ Mod (fun g => g = T ∨ g = m) w w')
theorem xE_some {X : Xs} : (∀ x ∈ xE X, x.2.isSome = true) → ∀ x ∈ X, x.2.isSome = true := by
  intro h x hx
  have := h (x.1, x.2.map Pd.p) (List.mem_map_of_mem hx)
  simpa using this
section
variable {w w' : World} {b T m : Nat} {c : Cf} {X : Xs}
theorem xadd_any (h : Vx w b T m c X) (v : Vp) (am : Option Addr) (nm cm n nv : Nat) (L : List Mb) (hM : Rd 19 Mb.l w am nm L) (hc : cok c = true) (hn : c.slots = n) (hv : c.versions = nv) (h1 : 1 ≤ n) (h2 : n ≤ 64) (h3 : 1 ≤ nv) (h4 : nv ≤ 64) :
    Calls Try.prog 48 #[.pointer (some ⟨T, 0, none⟩), .agg (vpc v), .slice am nm cm] w fun e w' => AddX w b T m c X v L n nv e w' := by
  obtain ⟨M, hV⟩ := h.tab
  refine (vadd_any hV v am nm cm n nv L hM hc hn hv h1 h2 h3 h4).mono ?_
  rintro e w' (⟨a1, a2, a3⟩ | ⟨a1, ⟨i, p, a2⟩, a3, a4⟩ | ⟨a1, a2, a3, a4, a5⟩ | ⟨a1, a2, i, u, a3, a4, a5, p, t, lv, sv, M', B, a6, a7, a8, a9, a10⟩)
  · exact .inl ⟨a1, a2, a3⟩
  · obtain ⟨d, hd, _⟩ := xE_of a2
    exact .inr (.inl ⟨a1, ⟨i, d, hd⟩, a3, a4⟩)
  · exact .inr (.inr (.inl ⟨a1, fun i d hd => a2 i d.p (xE_at hd), xE_some a3, a4, a5⟩))
  · refine .inr (.inr (.inr ⟨a1, fun i d hd => a2 i d.p (xE_at hd), i, u, xE_ofn a3, ?_, a5, ⟨p, t, _, 0, lv, L, sv, _, B⟩, ⟨rfl, rfl, rfl, rfl⟩, a7, a6, h.add (d := ⟨p, t, _, 0, lv, L, sv, _, B⟩) (xE_ofn a3) a10 ⟨M', a8⟩ a9 a6 a7 (Nat.le_trans a6 a9.bt), a10⟩))
    refine xE_some fun x hx => a4 x ?_
    unfold xE at hx ⊢
    rwa [List.map_take] at hx
theorem xrem_yes (h : Vx w b T m c X) (i : Nat) (v : Vp) (d : Pd) (hi : X[i]? = some (v, some d)) : Calls Try.prog 50 #[.pointer (some ⟨T, 0, none⟩), .int .i64 (i : Nat)] w fun e w' => e = .returned (.int .i64 0) ∧
    Vx w' b T m c (X.set i (vz, none)) ∧ Mod (fun g => g = T ∨ g = m) w w' := by
  obtain ⟨M, hV⟩ := h.tab
  refine (vrem_yes hV i v d.p (xE_at hi)).mono ?_
  rintro e w' ⟨rfl, h1, h2⟩
  exact ⟨rfl, h.rem h2 h1, h2⟩
/-- Is there one of a number? -/
def hasX (X : Xs) (i : Int) : Bool := decide (0 ≤ i) && (X[i.toNat]?.bind (·.2)).isSome
theorem hasX_E (X : Xs) (i : Int) : hasE (xE X) i = hasX X i := by
  unfold hasE hasX
  rw [xE_get]
  cases X[i.toNat]? with
  | none => rfl
  | some x => simp
theorem hasX_at {X : Xs} {i : Nat} {v : Vp} {d : Pd} (h : X[i]? = some (v, some d)) : hasX X (i : Int) = true := by simp [hasX, h]
theorem hasX_in (h : Vx w b T m c X) {i : Int} (hh : hasX X i = true) : ∃ (j : Nat) (v : Vp) (d : Pd), i = j ∧ j < 16 ∧ X[j]? = some (v, some d) := by
  obtain ⟨M, hV⟩ := h.tab
  rw [← hasX_E] at hh
  obtain ⟨j, v, p, e1, e2, e3⟩ := hasE_in hV hh
  obtain ⟨d, hd, _⟩ := xE_of e3
  exact ⟨j, v, d, e1, e2, hd⟩
theorem xrem_no (h : Vx w b T m c X) (i : Int) (hi : hasX X i = false) : Calls Try.prog 50 #[.pointer (some ⟨T, 0, none⟩), .int .i64 i] w fun e w' => e = .returned (.int .i64 4) ∧ w' = w := by
  obtain ⟨M, hV⟩ := h.tab
  exact vrem_no hV i (by rw [hasX_E]; exact hi)
theorem xvip_yes (h : Vx w b T m c X) (i : Nat) (v : Vp) (d : Pd) (hi : X[i]? = some (v, some d)) : Calls Try.prog 49 #[.pointer (some ⟨T, 0, none⟩), .int .i64 (i : Nat)] w fun e w' =>
    e = .returned (.tuple #[.agg (vpc v), .bool true]) ∧ Below w.heap.size w w' := by
  obtain ⟨M, hV⟩ := h.tab
  exact vvip_yes hV i v d.p (xE_at hi)
theorem xvip_no (h : Vx w b T m c X) (i : Int) (hi : hasX X i = false) : Calls Try.prog 49 #[.pointer (some ⟨T, 0, none⟩), .int .i64 i] w fun e w' =>
    e = .returned (.tuple #[.agg (vpc vz), .bool false]) ∧ Below w.heap.size w w' := by
  obtain ⟨M, hV⟩ := h.tab
  exact vvip_no hV i (by rw [hasX_E]; exact hi)
theorem xpools_yes (h : Vx w b T m c X) (i : Nat) (v : Vp) (d : Pd) (hi : X[i]? = some (v, some d)) : Calls Try.prog 71 #[.pointer (some ⟨T, 0, none⟩), .int .i64 (i : Nat)] w fun e w' =>
    e = .returned (.pointer (some ⟨d.p, 0, none⟩)) ∧ w' = w := by
  obtain ⟨M, hV⟩ := h.tab
  refine (vpools_any hV i).mono ?_
  rintro e w' ⟨rfl, rfl⟩
  refine ⟨?_, rfl⟩
  rw [hasX_E, hasX_at hi, if_pos rfl, Int.toNat_natCast, xE_at hi]; rfl
theorem xpools_no (h : Vx w b T m c X) (i : Int) (hi : hasX X i = false) : Calls Try.prog 71 #[.pointer (some ⟨T, 0, none⟩), .int .i64 i] w fun e w' =>
    e = .returned (.pointer none) ∧ w' = w := by
  obtain ⟨M, hV⟩ := h.tab
  refine (vpools_any hV i).mono ?_
  rintro e w' ⟨rfl, rfl⟩
  refine ⟨?_, rfl⟩
  rw [hasX_E, hi]; rfl
/-- How many there are. -/
def cntX (X : Xs) : Nat := X.countP fun x => x.2.isSome
theorem xlen_any (h : Vx w b T m c X) : Calls Try.prog 51 #[.pointer (some ⟨T, 0, none⟩)] w fun e w' => e = .returned (.int .i64 (cntX X : Nat)) ∧ w' = w := by
  obtain ⟨M, hV⟩ := h.tab
  refine (vlen_any hV).mono ?_
  rintro e w' ⟨rfl, rfl⟩
  refine ⟨?_, rfl⟩
  rw [show (xE X).countP (fun e => e.2.isSome) = cntX X by
    unfold xE cntX
    rw [List.countP_map]
    refine List.countP_congr fun x _ => ?_
    simp]
theorem xfind_yes (h : Vx w b T m c X) (i : Nat) (v : Vp) (d : Pd) (hi : X[i]? = some (v, some d)) : Calls Try.prog 66 #[.pointer (some ⟨T, 0, none⟩), .agg (vpc v)] w fun e w' =>
    e = .returned (.tuple #[.int .i64 (i : Nat), .bool true]) ∧ Below w.heap.size w w' := by
  obtain ⟨M, hV⟩ := h.tab
  exact vfind_yes hV v i d.p (xE_at hi)
theorem xfind_no (h : Vx w b T m c X) (v : Vp) (hv : ∀ (i : Nat) (d : Pd), X[i]? ≠ some (v, some d)) : Calls Try.prog 66 #[.pointer (some ⟨T, 0, none⟩), .agg (vpc v)] w fun e w' =>
    e = .returned (.tuple #[.int .i64 0, .bool false]) ∧ Below w.heap.size w w' := by
  obtain ⟨M, hV⟩ := h.tab
  refine vfind_no hV v fun i p hp => ?_
  obtain ⟨d, hd, _⟩ := xE_of hp
  exact hv i d hd
theorem xof_yes (h : Vx w b T m c X) (k : Ky) (i : Nat) (d : Pd) (hk : kvld k = true) (hi : X[i]? = some (kvip k, some d)) : Calls Try.prog 52 #[.pointer (some ⟨T, 0, none⟩), .agg (kc k)] w fun e w' =>
    e = .returned (.tuple #[.int .i64 (i : Nat), .bool true]) ∧ Below w.heap.size w w' := by
  obtain ⟨M, hV⟩ := h.tab
  refine (vof_any hV k).mono ?_
  rintro e w' ⟨rfl, hb⟩
  refine ⟨?_, hb⟩
  have : ofE (xE X) k = some i := by
    unfold ofE
    rw [hk, if_pos rfl]
    cases hw : whereE (xE X) (kvip k) with
    | none => exact absurd (xE_at hi) (whereE_none hw i d.p)
    | some j =>
      obtain ⟨p, hp⟩ := whereE_some hw
      rw [hV.one hp (xE_at hi)]
  rw [this]; rfl
theorem xof_no (h : Vx w b T m c X) (k : Ky) (hv : kvld k = false ∨ ∀ (i : Nat) (d : Pd), X[i]? ≠ some (kvip k, some d)) : Calls Try.prog 52 #[.pointer (some ⟨T, 0, none⟩), .agg (kc k)] w fun e w' =>
    e = .returned (.tuple #[.int .i64 0, .bool false]) ∧ Below w.heap.size w w' := by
  obtain ⟨M, hV⟩ := h.tab
  refine (vof_any hV k).mono ?_
  rintro e w' ⟨rfl, hb⟩
  refine ⟨?_, hb⟩
  have : ofE (xE X) k = none := by
    unfold ofE
    rcases hv with hv | hv
    · rw [hv]; rfl
    · split
      · cases hw : whereE (xE X) (kvip k) with
        | none => rfl
        | some j =>
          obtain ⟨p, hp⟩ := whereE_some hw
          obtain ⟨d, hd, _⟩ := xE_of hp
          exact absurd hd (hv j d)
      · rfl
  rw [this]; rfl
theorem xnew_any (c : Cf) (w : World) (hc : cok c = true) : Calls Try.prog 46 #[.agg (cc c)] w fun e w' => ∃ T m, e = .returned (.tuple #[.pointer (some ⟨T, 0, none⟩), .int .i64 0]) ∧ Vx w' w.heap.size T m c (List.replicate 16 (vz, none)) ∧ Below w.heap.size w w' := by
  refine (vnew_any c w hc).mono ?_
  rintro e w' ⟨T, m, rfl, h1, h2⟩
  exact ⟨T, m, rfl, Vx.fresh h1, h2⟩
end
end Go.Proofs.Ythfgccibiajneaa

/-
  awake (chapter 19).
-/
namespace Go.Proofs.Ythfgccibiajneaa
open Go.RowKit Go.Shelf
theorem exec_bldV3 (parts : Array (Nat × Operand)) (dst : Option Tmp) (ty : TypeId) (pos : String) (after : Array Edge) (g : Option (Nat × Bool)) (f : Operand → Value) (w : World) :
    (execOp f ⟨dst, .build 86 parts, ty, pos, after, g⟩).run Try.prog w = bldX Try.prog 86 (parts.map fun (i, x) => (i, f x)) w := rfl
theorem exec_bldC5 (parts : Array (Nat × Operand)) (dst : Option Tmp) (ty : TypeId) (pos : String) (after : Array Edge) (g : Option (Nat × Bool)) (f : Operand → Value) (w : World) :
    (execOp f ⟨dst, .build 27 parts, ty, pos, after, g⟩).run Try.prog w = bldX Try.prog 27 (parts.map fun (i, x) => (i, f x)) w := rfl
attribute [local go_sem ↓] exec_bldV3 exec_bldC5
/-- Two VIPs set side by side. -/
theorem vpKey5 : Try.prog.keyTypeAt 5 86 = true := by kernel_rfl
theorem eqVp (a b : Vp) (w : World) : (Op.equalIn 10000 86 (.agg (vpc a)) (.agg (vpc b))).run Try.prog w = .ok (decide (a = b)) w := by
  obtain ⟨la, ha⟩ := key_vp a
  obtain ⟨lb, hb⟩ := key_vp b
  obtain ⟨r, hr, hi⟩ := run_equal_deep (P := Try.prog) w (m := 5) (by omega) vpKey5 (by kernel_rfl) ha hb
  have e : r = decide (a = b) := by
    rw [Bool.eq_iff_iff, hi, decide_eq_true_iff]
    constructor
    · rintro rfl
      have := vpLaw.inj ha hb
      simp only [Value.agg.injEq] at this
      exact Vp.inj this
    · rintro rfl
      rw [ha] at hb
      exact Option.some.inj hb
  rw [← e]
  exact hr
theorem vp_guard : Try.prog.eqGuardType Try.prog.depth 86 = false := by kernel_rfl
attribute [go_sem ↓] eqVp
attribute [go_sem] vp_guard
theorem build_vp (pr port : Nat) (a : Adr) (h1 : pr < 256) (h2 : port < 65536) (w : World) : bldX Try.prog 86 #[(0, .int .u8 (pr : Nat)), (1, .agg (ac a)), (2, .int .u16 (port : Nat))] w = .ok (.value (.agg (vpc ⟨pr, a, port, h1, h2⟩))) w := by
  refine bldX_of w ?_
  obtain ⟨v6, b, hb, hlt⟩ := a
  obtain ⟨b0, b1, b2, b3, b4, b5, b6, b7, b8, b9, b10, b11, b12, b13, b14, b15, rfl⟩ : ∃ b0 b1 b2 b3 b4 b5 b6 b7 b8 b9 b10 b11 b12 b13 b14 b15, b = [b0, b1, b2, b3, b4, b5, b6, b7, b8, b9, b10, b11, b12, b13, b14, b15] := by
    match b, hb with
    | [b0, b1, b2, b3, b4, b5, b6, b7, b8, b9, b10, b11, b12, b13, b14, b15], _ => exact ⟨_, _, _, _, _, _, _, _, _, _, _, _, _, _, _, _, rfl⟩
  kernel_rfl
theorem build_vp0 (pr : Nat) (a : Adr) (h1 : pr < 256) (w : World) : bldX Try.prog 86 #[(0, .int .u8 (pr : Nat)), (1, .agg (ac a))] w = .ok (.value (.agg (vpc ⟨pr, a, 0, h1, by omega⟩))) w := by
  refine bldX_of w ?_
  obtain ⟨v6, b, hb, hlt⟩ := a
  obtain ⟨b0, b1, b2, b3, b4, b5, b6, b7, b8, b9, b10, b11, b12, b13, b14, b15, rfl⟩ : ∃ b0 b1 b2 b3 b4 b5 b6 b7 b8 b9 b10 b11 b12 b13 b14 b15, b = [b0, b1, b2, b3, b4, b5, b6, b7, b8, b9, b10, b11, b12, b13, b14, b15] := by
    match b, hb with
    | [b0, b1, b2, b3, b4, b5, b6, b7, b8, b9, b10, b11, b12, b13, b14, b15], _ => exact ⟨_, _, _, _, _, _, _, _, _, _, _, _, _, _, _, _, rfl⟩
  kernel_rfl
theorem vlen_nil (w : World) : Calls Try.prog 51 #[.pointer none] w fun e w' => e = .returned (.int .i64 0) ∧ w' = w := by
  go_enter Try.func51, Try.ntmps51
  go_wp2_with fail
  go_ret
  exact ⟨rfl, rfl⟩
theorem vhas_nil (i : Int) (w : World) : Calls Try.prog 102 #[.pointer none, .int .i64 i] w fun e w' => e = .returned (.bool false) ∧ w' = w := by
  go_enter Try.func102, Try.ntmps102
  go_wp2_with fail
  go_ret
  exact ⟨rfl, rfl⟩
theorem vpools_nil (i : Int) (w : World) : Calls Try.prog 71 #[.pointer none, .int .i64 i] w fun e w' => e = .returned (.pointer none) ∧ w' = w := by
  go_enter Try.func71, Try.ntmps71
  go_wp2_with fail
  refine (vhas_nil i _).mono ?_
  rintro e w1 ⟨rfl, rfl⟩
  go_wp2_with fail
  go_ret
  exact ⟨rfl, rfl⟩
theorem vrem_nil (i : Int) (w : World) : Calls Try.prog 50 #[.pointer none, .int .i64 i] w fun e w' => e = .returned (.int .i64 4) ∧ w' = w := by
  go_enter Try.func50, Try.ntmps50
  go_wp2_with fail
  refine (vhas_nil i _).mono ?_
  rintro e w1 ⟨rfl, rfl⟩
  go_wp2_with fail
  go_ret
  exact ⟨rfl, rfl⟩
theorem cok_roomyN (m : Nat) (h : m < 4294967296) : cok (roomyOf m h) = true := by
  kernel_rfl
theorem cok_roomyS (s : Int) : cok (roomy s) = true := cok_roomyN _ _
def kA : Ky := akey 5 false false
def vA : Vp := ⟨6, kA.dst, 80, by omega, by omega⟩
theorem vA_ok : vipOk vA = true := by kernel_rfl
theorem vA_k : kvip kA = vA := by unfold vA kA akey keyOf; rfl
theorem kA_ok : kvld kA = true := by kernel_rfl
theorem vz_ok : vipOk vz = false := by kernel_rfl
theorem add1_ok : addOk (roomy 1) vA (srq false [1]) = true := by kernel_rfl
theorem add0_ok : addOk (roomy 1) vA [] = true := by kernel_rfl
def vB : Vp := ⟨17, kA.dst, 0, by omega, by omega⟩
theorem add6_no : addOk (roomy 1) vB (srq true [1]) = false := by kernel_rfl
set_option maxRecDepth 100000 in
set_option maxHeartbeats 8000000 in
theorem vawake_any (w : World) : Calls Try.prog 45 #[] w fun e w' => e = .returned (.bool true) ∧ Below w.heap.size w w' := by
  have KR := Lib.hid (fun w => roomy_below 1 w)
  have KK := Lib.hid (fun w => key_any 5 false false w)
  have OK := Lib.hid (cok_roomyS 1)
  have A1 := Lib.hid add1_ok
  have A0 := Lib.hid add0_ok
  have A6 := Lib.hid add6_no
  have KV := Lib.hid (show kvld (akey 5 false false) = true from kA_ok)
  have KVV := Lib.hid (show kvip (akey 5 false false) = vA from vA_k)
  have hsl := Lib.hid (show (roomy 1).slots = ((32 : Nat) : Int) from rfl)
  have hve := Lib.hid (show (roomy 1).versions = ((16 : Nat) : Int) from rfl)
  have hbv : ∀ w, bldX Try.prog 86 #[(0, .int .u8 6), (1, .agg (ac (akey 5 false false).dst)), (2, .int .u16 80)] w = .ok (.value (.agg (vpc vA))) w := build_vp 6 80 (akey 5 false false).dst (by omega) (by omega)
  have hbw : ∀ w, bldX Try.prog 86 #[(0, .int .u8 17), (1, .agg (ac (akey 5 false false).dst))] w = .ok (.value (.agg (vpc vB))) w := build_vp0 17 (akey 5 false false).dst (by omega)
  have hbz := build_zero
  generalize roomy 1 = c0 at *
  generalize akey 5 false false = k0 at *
  have VO := Lib.hid vA_ok
  have VNE := Lib.hid vz_ok
  generalize vA = v0' at *
  generalize vB = v1' at *
  go_enter Try.func45, Try.ntmps45
  go_wp2_with fail
  refine (KR.out _).mono ?_
  rintro e w1 ⟨rfl, hb⟩
  have HB := Lib.hid hb
  clear hb
  go_wp2_with fail
  refine (xnew_any c0 _ OK.out).mono ?_
  rintro e w2 ⟨T, m, rfl, hX, hb⟩
  have HX := Lib.hid hX
  have HBASE := Lib.hid HB.out.size
  replace HB := Lib.hid (step_below HB.out hb)
  clear hX hb
  go_wp2_with fail
  refine (vnew_no cf0 _ cok_zero).mono ?_
  rintro e w3 ⟨rfl, hb⟩
  replace HX := Lib.hid (HX.out.below hb)
  replace HB := Lib.hid (step_below HB.out hb)
  clear hb hbz
  go_wp2_with fail
  refine (KK.out _).mono ?_
  rintro e w4 ⟨rfl, hb⟩
  replace HX := Lib.hid (HX.out.below hb)
  replace HB := Lib.hid (step_below HB.out hb)
  clear hb
  have hst := fun (w : World) (n : Nat) (Z : Array Value) (hn : n = w.heap.size) (hZ : Z.size = 37) => store_new (P := Try.prog) sizeK w n Z (kc k0) hn hZ (kc_size _) (kc_one _)
  go_upto_region 6 with fail
  obtain ⟨bk, hbk⟩ : ∃ g, g = w4.heap.size := ⟨_, rfl⟩
  rw [← hbk]
  have HK := Lib.hid (at_new w4 31 (kc k0) bk hbk)
  replace HX := Lib.hid (HX.out.alloc (.cells (kc k0) 31))
  replace HB := Lib.hid (HB.out.alloc HB.out.size (.cells (kc k0) 31))
  clear hbk hst
  generalize w4.alloc (.cells (kc k0) 31) = W5 at *
  have r1 := HK.out.row
  have o1 := HK.out.open
  have l1 := HK.out.lt
  have hst := fun (w : World) (n : Nat) (Z : Array Value) (hn : n = w.heap.size) (hZ : Z.size = 19) => store_new (P := Try.prog) sizeVp w n Z (vpc v0') hn hZ (vpc_size _) (vp_one _)
  go_upto_region 7 with fail
  obtain ⟨bv, hbv2⟩ : ∃ g, g = W5.heap.size := ⟨_, rfl⟩
  rw [← hbv2]
  have HV := Lib.hid (at_new W5 86 (vpc v0') bv hbv2)
  replace HK := Lib.hid (HK.out.alloc (.cells (vpc v0') 86))
  replace HX := Lib.hid (HX.out.alloc (.cells (vpc v0') 86))
  replace HB := Lib.hid (HB.out.alloc HB.out.size (.cells (vpc v0') 86))
  clear hbv2 hst r1 o1 l1 hbv
  generalize W5.alloc (.cells (vpc v0') 86) = W6 at *
  obtain ⟨ha, hao⟩ := HV.out.agg 0 19 (by rw [vpc_size]; omega)
  rw [show 0 + 19 = 19 from rfl, vpc_all] at ha
  have l1 := HV.out.lt
  obtain ⟨n1, n2⟩ := HX.out.tAt HV.out (by decide)
  refine region_sq (fun g => g = T ∨ g = m) [(0, true), (1, true), (2, false), (3, false), (4, false), (5, true), (6, true), (7, true), (8, true), (9, true)] (by kernel_rfl) (by kernel_rfl) (fun _ _ d _ _ h => by cases d <;> exact h) ?_
  repeat (first
    | (refine sq_yes rfl (by rfl) (fun w' hM => by ((try replace hM := hM.of_drew); obtain ⟨hR1, hR2, hR3⟩ := hM.rules; have hA := hM.agg; obtain ⟨hA1, hA2⟩ := hA; clear hM; go_simp; with_reducible rfl)) ?_; simp only [Act.put, List.setIfInBounds_toArray, List.set_cons_zero, List.set_cons_succ])
    | (refine sq_no rfl (by rfl) ?_; simp only [Act.put, List.setIfInBounds_toArray, List.set_cons_zero, List.set_cons_succ]))
  refine sq_do_yes rfl (by rfl) (fun K hK => ?_)
  go_wp2_with fail
  refine ⟨(Mod.refl _ _).alloc _, ?_⟩
  obtain ⟨gz, hgz⟩ : ∃ g, g = W6.heap.size := ⟨_, rfl⟩
  rw [← hgz]
  have HZ := Lib.hid (show At (W6.alloc (.cells #[.int .i64 1] 3)).drew gz 3 #[.int .i64 1] from at_new W6 3 #[.int .i64 1] gz hgz)
  replace HK := Lib.hid (show At (W6.alloc (.cells #[.int .i64 1] 3)).drew bk 31 (kc k0) from HK.out.alloc _)
  replace HV := Lib.hid (show At (W6.alloc (.cells #[.int .i64 1] 3)).drew bv 86 (vpc v0') from HV.out.alloc _)
  replace HX := Lib.hid (HX.out.alloc (.cells #[.int .i64 1] 3)).drew
  replace HB := Lib.hid (HB.out.alloc HB.out.size (.cells #[.int .i64 1] 3)).drew
  clear hgz ha hao l1
  generalize (W6.alloc (.cells #[.int .i64 1] 3)).drew = W7 at *
  refine sq_do_yes rfl (by rfl) (fun K hK => ?_)
  go_wp2_with fail
  refine (serversv_any false (some ⟨gz, 0, none⟩) 1 1 [1] _ (Rd.one (enc := ei) (x := 1) HZ.out rfl) (by omega)).mono ?_
  rintro e w8 ⟨v8, rfl, hs8, hb⟩
  obtain ⟨a8, c8, hv8⟩ := hs8.form
  rw [show (srq false [1]).length = 1 from rfl] at hv8
  subst hv8
  have HS8 := Lib.hid hs8
  replace HK := Lib.hid (HK.out.below hb HK.out.lt)
  replace HV := Lib.hid (HV.out.below hb HV.out.lt)
  replace HX := Lib.hid (HX.out.below hb)
  replace HB := Lib.hid (step_below HB.out hb)
  clear hs8 HZ
  go_wp2_with fail
  refine ⟨Mod.of_below hb, ?_⟩
  clear hb
  refine sq_do_yes rfl (by rfl) (fun K hK => ?_)
  go_wp2_with fail
  refine (xadd_any HX.out v0' a8 1 c8 32 16 (srq false [1]) (HS8.out.rd Mb.len).1 OK.out hsl.out hve.out (by omega) (by omega) (by omega) (by omega)).mono ?_
  rintro e w9 (⟨h, _⟩ | ⟨_, ⟨i, d, h⟩, _⟩ | ⟨_, _, h, _⟩ | ⟨_, _, i, u, h1, h2, rfl, d, hd, h3, h4, h5, h6⟩)
  · rw [A1.out] at h; cases h
  · rw [List.getElem?_replicate] at h; split at h <;> simp at h
  · have := h (vz, none) (by simp); simp at this
  obtain rfl : i = 0 := by
    rcases i with _ | i
    · rfl
    · have := h2 (vz, none) (by simp [List.replicate]); simp at this
  have HD := Lib.hid hd
  have HX0 := Lib.hid (show ((List.replicate 16 (vz, none) : Xs).set 0 (v0', some d))[0]? = some (v0', some d) from rfl)
  have HXO := HX
  replace HX := Lib.hid h5
  have HBL := HX
  replace HB := Lib.hid (HXO.out.bel h6 HBASE.out HB.out)
  replace HK := Lib.hid (HK.out.mod h6 (by have := HXO.out.tAt HK.out (by decide); simp [this]))
  replace HV := Lib.hid (HV.out.mod h6 (by have := HXO.out.tAt HV.out (by decide); simp [this]))
  have HX1 := Lib.hid (show ((List.replicate 16 (vz, none) : Xs).set 0 (v0', some d)).set 0 (vz, none) = List.replicate 16 (vz, none) from rfl)
  generalize ((List.replicate 16 (vz, none) : Xs).set 0 (v0', some d)) = X1 at *
  have HM6 := Lib.hid h6
  clear h1 h2 hd h5 h6 HS8 HXO HBL
  go_wp2_with fail
  refine ⟨HM6.out, ?_⟩
  repeat (first
    | (refine sq_yes rfl (by rfl) (fun w' hM => by ((try replace hM := hM.of_drew); obtain ⟨hR1, hR2, hR3⟩ := hM.rules; have hA := hM.agg; obtain ⟨hA1, hA2⟩ := hA; clear hM; go_simp; with_reducible rfl)) ?_; simp only [Act.put, List.setIfInBounds_toArray, List.set_cons_zero, List.set_cons_succ])
    | (refine sq_no rfl (by rfl) ?_; simp only [Act.put, List.setIfInBounds_toArray, List.set_cons_zero, List.set_cons_succ]))
  refine sq_end ?_
  clear n1 n2
  clear h3 h4
  obtain ⟨ha, hao⟩ := HV.out.agg 0 19 (by rw [vpc_size]; omega)
  rw [show 0 + 19 = 19 from rfl, vpc_all] at ha
  have l1 := HV.out.lt
  go_wp2_with fail
  refine (xadd_any HX.out v0' none 0 0 32 16 [] (Rd.zero _ _ _ _) OK.out hsl.out hve.out (by omega) (by omega) (by omega) (by omega)).mono ?_
  rintro e w10 (⟨h, _⟩ | ⟨_, _, rfl, hb⟩ | ⟨_, h, _⟩ | ⟨_, h, _⟩)
  · rw [A0.out] at h; cases h
  rotate_left
  · exact absurd HX0.out (h 0 d)
  · exact absurd HX0.out (h 0 d)
  replace HK := Lib.hid (HK.out.below hb HK.out.lt)
  replace HV := Lib.hid (HV.out.below hb HV.out.lt)
  replace HX := Lib.hid (HX.out.below hb)
  replace HB := Lib.hid (step_below HB.out hb)
  clear hb ha hao l1
  have r1 := HK.out.row
  have o1 := HK.out.open
  have l1 := HK.out.lt
  obtain ⟨n1, n2⟩ := HX.out.tAt HK.out (by decide)
  go_wp2_with fail
  refine region_sq (fun g => g = T ∨ g = m) [(0, true), (1, true), (2, true), (3, true), (4, false), (5, false), (6, false), (7, true), (8, true), (9, true), (10, true), (11, true)] (by kernel_rfl) (by kernel_rfl) (fun _ _ d _ _ h => by cases d <;> exact h) ?_
  repeat (first
    | (refine sq_yes rfl (by rfl) (fun w' hM => by ((try replace hM := hM.of_drew); obtain ⟨hR1, hR2, hR3⟩ := hM.rules; have hA := hM.agg; obtain ⟨hA1, hA2⟩ := hA; clear hM; go_simp; with_reducible rfl)) ?_; simp only [Act.put, List.setIfInBounds_toArray, List.set_cons_zero, List.set_cons_succ])
    | (refine sq_no rfl (by rfl) ?_; simp only [Act.put, List.setIfInBounds_toArray, List.set_cons_zero, List.set_cons_succ]))
  refine sq_do_yes rfl (by rfl) (fun K hK => ?_)
  go_wp2_with fail
  refine ⟨(Mod.refl _ _).alloc _, ?_⟩
  obtain ⟨gz, hgz⟩ : ∃ g, g = w10.heap.size := ⟨_, rfl⟩
  rw [← hgz]
  have HZ := Lib.hid (show At (w10.alloc (.cells #[.int .i64 1] 3)).drew gz 3 #[.int .i64 1] from at_new w10 3 #[.int .i64 1] gz hgz)
  replace HK := Lib.hid (show At (w10.alloc (.cells #[.int .i64 1] 3)).drew bk 31 (kc k0) from HK.out.alloc _)
  replace HV := Lib.hid (show At (w10.alloc (.cells #[.int .i64 1] 3)).drew bv 86 (vpc v0') from HV.out.alloc _)
  replace HX := Lib.hid (HX.out.alloc (.cells #[.int .i64 1] 3)).drew
  replace HB := Lib.hid (HB.out.alloc HB.out.size (.cells #[.int .i64 1] 3)).drew
  clear hgz r1 o1 l1
  generalize (w10.alloc (.cells #[.int .i64 1] 3)).drew = W11 at *
  refine sq_do_yes rfl (by rfl) (fun K hK => ?_)
  go_wp2_with fail
  refine (serversv_any true (some ⟨gz, 0, none⟩) 1 1 [1] _ (Rd.one (enc := ei) (x := 1) HZ.out rfl) (by omega)).mono ?_
  rintro e w12 ⟨v12, rfl, hs12, hb⟩
  obtain ⟨a12, c12, hv12⟩ := hs12.form
  rw [show (srq true [1]).length = 1 from rfl] at hv12
  subst hv12
  have HS12 := Lib.hid hs12
  replace HK := Lib.hid (HK.out.below hb HK.out.lt)
  replace HV := Lib.hid (HV.out.below hb HV.out.lt)
  replace HX := Lib.hid (HX.out.below hb)
  replace HB := Lib.hid (step_below HB.out hb)
  clear hs12 HZ
  go_wp2_with fail
  refine ⟨Mod.of_below hb, ?_⟩
  clear hb
  refine sq_do_yes rfl (by rfl) (fun K hK => ?_)
  go_wp2_with fail
  refine (xadd_any HX.out v1' a12 1 c12 32 16 (srq true [1]) (HS12.out.rd Mb.len).1 OK.out hsl.out hve.out (by omega) (by omega) (by omega) (by omega)).mono ?_
  rintro e w13 (⟨_, rfl, hb⟩ | ⟨h, _⟩ | ⟨h, _⟩ | ⟨h, _⟩)
  rotate_left
  · rw [A6.out] at h; cases h
  · rw [A6.out] at h; cases h
  · rw [A6.out] at h; cases h
  replace HK := Lib.hid (HK.out.below hb HK.out.lt)
  replace HV := Lib.hid (HV.out.below hb HV.out.lt)
  replace HX := Lib.hid (HX.out.below hb)
  replace HB := Lib.hid (step_below HB.out hb)
  clear HS12
  go_wp2_with fail
  refine ⟨Mod.of_below hb, ?_⟩
  clear hb
  repeat (first
    | (refine sq_yes rfl (by rfl) (fun w' hM => by ((try replace hM := hM.of_drew); obtain ⟨hR1, hR2, hR3⟩ := hM.rules; have hA := hM.agg; obtain ⟨hA1, hA2⟩ := hA; clear hM; go_simp; with_reducible rfl)) ?_; simp only [Act.put, List.setIfInBounds_toArray, List.set_cons_zero, List.set_cons_succ])
    | (refine sq_no rfl (by rfl) ?_; simp only [Act.put, List.setIfInBounds_toArray, List.set_cons_zero, List.set_cons_succ]))
  refine sq_end ?_
  clear n1 n2
  have r1 := HK.out.row
  have o1 := HK.out.open
  have l1 := HK.out.lt
  go_wp2_with fail
  refine (xof_yes HX.out k0 0 d KV.out (by rw [KVV.out]; exact HX0.out)).mono ?_
  rintro e w14 ⟨rfl, hb⟩
  replace HV := Lib.hid (HV.out.below hb HV.out.lt)
  replace HX := Lib.hid (HX.out.below hb)
  replace HB := Lib.hid (step_below HB.out hb)
  clear hb HK r1 o1 l1
  go_wp2_with fail
  refine (xvip_yes HX.out 0 v0' d HX0.out).mono ?_
  rintro e w15 ⟨rfl, hb⟩
  replace HV := Lib.hid (HV.out.below hb HV.out.lt)
  replace HX := Lib.hid (HX.out.below hb)
  replace HB := Lib.hid (step_below HB.out hb)
  clear hb
  have hst := fun (w : World) (n : Nat) (Z : Array Value) (hn : n = w.heap.size) (hZ : Z.size = 19) => store_new (P := Try.prog) sizeVp w n Z (vpc v0') hn hZ (vpc_size _) (vp_one _)
  go_upto_region 12 with fail
  obtain ⟨bx, hbx⟩ : ∃ g, g = w15.heap.size := ⟨_, rfl⟩
  rw [← hbx]
  have HXX := Lib.hid (at_new w15 86 (vpc v0') bx hbx)
  replace HV := Lib.hid (HV.out.alloc (.cells (vpc v0') 86))
  replace HX := Lib.hid (HX.out.alloc (.cells (vpc v0') 86))
  replace HB := Lib.hid (HB.out.alloc HB.out.size (.cells (vpc v0') 86))
  clear hbx hst
  generalize w15.alloc (.cells (vpc v0') 86) = W16 at *
  go_wp2_with fail
  refine (xpools_yes HX.out 0 v0' d HX0.out).mono ?_
  rintro e w17 ⟨rfl, rfl⟩
  go_wp2_with fail
  refine (xrem_yes HX.out 0 v0' d HX0.out).mono ?_
  rintro e w18 ⟨rfl, hX, hm⟩
  have HPd := Lib.hid (HX.out.pools hm HX0.out)
  replace HB := Lib.hid (HX.out.bel hm HBASE.out HB.out)
  replace HV := Lib.hid (HV.out.mod hm (by have := HX.out.tAt HV.out (by decide); simp [this]))
  replace HXX := Lib.hid (HXX.out.mod hm (by have := HX.out.tAt HXX.out (by decide); simp [this]))
  rw [HX1.out] at hX
  replace HX := Lib.hid hX
  clear hX hm HX0
  go_wp2_with fail
  refine (xrem_no HX.out 0 rfl).mono ?_
  rintro e w19 ⟨rfl, rfl⟩
  obtain ⟨ha, hao⟩ := HV.out.agg 0 19 (by rw [vpc_size]; omega)
  rw [show 0 + 19 = 19 from rfl, vpc_all] at ha
  have l1 := HV.out.lt
  obtain ⟨ha2, hao2⟩ := HXX.out.agg 0 19 (by rw [vpc_size]; omega)
  rw [show 0 + 19 = 19 from rfl, vpc_all] at ha2
  have l2 := HXX.out.lt
  have hq : decide (v0' = v0') = true := by simp
  go_wp2_with fail
  refine (last_any HPd.out (by rw [HD.out.2.2.1]; decide)).mono ?_
  rintro e w20 ⟨v20, rfl, hs20, hb⟩
  obtain ⟨a20, c20, hv20⟩ := hs20.form
  rw [HD.out.2.2.1, show (srq false [1]).length = 1 from rfl] at hv20
  subst hv20
  replace HV := Lib.hid (HV.out.below hb HV.out.lt)
  replace HX := Lib.hid (HX.out.below hb)
  replace HB := Lib.hid (step_below HB.out hb)
  clear hs20 hb hq ha hao l1 ha2 hao2 l2 HXX HPd
  obtain ⟨ha, hao⟩ := HV.out.agg 0 19 (by rw [vpc_size]; omega)
  rw [show 0 + 19 = 19 from rfl, vpc_all] at ha
  have l1 := HV.out.lt
  go_wp2_with fail
  refine (xlen_any HX.out).mono ?_
  rintro e w21 ⟨rfl, rfl⟩
  rw [show cntX (List.replicate 16 (vz, none)) = 0 from rfl]
  go_wp2_with fail
  refine (vval_any v0' _).mono ?_
  rintro e w22 ⟨rfl, hb⟩
  rw [VO.out]
  replace HB := Lib.hid (step_below HB.out hb)
  clear hb ha hao l1
  have hbz := build_vz
  go_wp2_with fail
  refine (vval_any vz _).mono ?_
  rintro e w23 ⟨rfl, hb⟩
  rw [VNE.out]
  replace HB := Lib.hid (step_below HB.out hb)
  clear hb hbz
  go_wp2_with fail
  refine (vlen_nil _).mono ?_
  rintro e w24 ⟨rfl, rfl⟩
  go_wp2_with fail
  refine (vpools_nil 0 _).mono ?_
  rintro e w25 ⟨rfl, rfl⟩
  go_wp2_with fail
  refine (vrem_nil 0 _).mono ?_
  rintro e w26 ⟨rfl, rfl⟩
  go_wp2_with fail
  go_ret
  exact ⟨rfl, HB.out⟩
end Go.Proofs.Ythfgccibiajneaa
