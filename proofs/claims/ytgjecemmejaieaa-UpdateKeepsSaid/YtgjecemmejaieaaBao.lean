/-
  Texts in one, each behind those that it needs: FamPlaces, FamAll, FamBase, FBloomA, FBloomB, FBloomC.
-/
import Derived.Test.YtgjecemmejaieaaBan
/-
  A family's Places of a flow: an iterator.
-/
namespace Go.Proofs.Ytgjecemmejaieaa
open Go.RowKit Go.Shelf
attribute [local go_sem] Oper.semAt_some
def plEnc (c : Cf) (k : Ky) (s : Nat) : Array Value := #[.agg #[.int .i64 s, .int .i64 (idx c k s)]]
/-- How many places a flow has. -/
def plN (c : Cf) (k : Ky) : Nat := if kvld k = true then c.stages.toNat else 0
theorem range_snoc (n : Nat) : List.range (n + 1) = List.range n ++ [n] := List.range_succ
/-- What a round keeps: whatever lay below n₀, and the closure's own boxes. -/
def KpF (n₀ B1 B2 : Nat) (A B : World) : Prop := Below n₀ A B ∧ B.heap[B1]? = A.heap[B1]? ∧ B.heap[B2]? = A.heap[B2]?
theorem KpF.t {n₀ B1 B2 : Nat} {A B C : World} (h : KpF n₀ B1 B2 A B) (k : KpF n₀ B1 B2 B C) : KpF n₀ B1 B2 A C := ⟨h.1.trans k.1, k.2.1.trans h.2.1, k.2.2.trans h.2.2⟩
theorem KpF.b {n₀ B1 B2 : Nat} {w : World} (hn : n₀ ≤ w.heap.size) (h1 : B1 < w.heap.size) (h2 : B2 < w.heap.size) (W : World) (l : Nat) (o o' : Obj) (hl : w.heap.size ≤ l) (h : W.heap[l]? = some o) (q1 : o.isCells = false) (q2 : o.isWalk = false) : KpF n₀ B1 B2 W (W.putObj l o') :=
  ⟨belowK_b hn W l o o' hl h q1 q2, World.putObj_heap_other (by omega), World.putObj_heap_other (by omega)⟩
theorem KpF.refl (n₀ B1 B2 : Nat) (A : World) : KpF n₀ B1 B2 A A := ⟨Below.refl _ _, rfl, rfl⟩
theorem KpF.below {n₀ B1 B2 : Nat} {A B : World} (hb : Below A.heap.size A B) (hn : n₀ ≤ A.heap.size) (h1 : B1 < A.heap.size) (h2 : B2 < A.heap.size) : KpF n₀ B1 B2 A B := ⟨hb.mono hn, hb.block _ h1, hb.block _ h2⟩
theorem KpF.lt1 {n₀ B1 B2 : Nat} {A B : World} (h : KpF n₀ B1 B2 A B) (h1 : B1 < A.heap.size) : B1 < B.heap.size := by
  have := h.2.1
  rw [Array.getElem?_eq_getElem h1] at this
  exact (Array.getElem?_eq_some_iff.1 this).1
theorem KpF.lt2 {n₀ B1 B2 : Nat} {A B : World} (h : KpF n₀ B1 B2 A B) (h1 : B2 < A.heap.size) : B2 < B.heap.size := by
  have := h.2.2
  rw [Array.getElem?_eq_getElem h1] at this
  exact (Array.getElem?_eq_some_iff.1 this).1
theorem grown_of_below {a b : World} (h : Below a.heap.size a b) : a.grownBy b none := ⟨h.os, h.tape, h.output, h.size, fun k hk _ => h.block k hk⟩
end Go.Proofs.Ytgjecemmejaieaa

/-
  all (chapter 13): a flow's places, left off behind so many.
-/
namespace Go.Proofs.Ytgjecemmejaieaa
open Go.RowKit Go.Shelf
attribute [local go_sem] Oper.semAt_some
theorem run_equalIn_func_nil {P : Program} (w : World) (d : Nat) (t : TypeId) {ps rs : Array TypeId} {v : Bool} (fn : Fn) (fi ca : Array Value) (h : P.underlying t = some (.func ps rs v)) :
    (Op.equalIn (d + 1) t (.func fn fi ca) .nilFunc).run P w = .ok false w := by
  simp [Op.equalIn, run_underlying h]
/-- 'f == nil', f a function's value. -/
theorem run_eql_func_nil {P : Program} (w : World) (t : TypeId) {ps rs : Array TypeId} {v : Bool} (fn : Fn) (fi ca : Array Value) (h : P.underlying t = some (.func ps rs v)) :
    (binOp .eql t (.func fn fi ca) .nilFunc).run P w = .ok (.bool false) w := by
  simp only [binOp]
  simp [Op.equal, Op.maxDepth, run_equalIn_func_nil w 9999 t fn fi ca h]
/-- A struct of cells, unturned by whatever turns no cells. -/
theorem at_own {β : Type} (B : Nat) (t : TypeId) (cs : Array Value) : Own (fun (_ : β) W => At W B t cs) := fun s X Y row hs hg hrow =>
  (hg.block B (At.lt hs) (fun e' => by obtain ⟨o, ho, hc⟩ := hrow B e'.symm; rw [show X.heap[B]? = _ from hs] at ho; cases ho; cases hc)).trans hs
theorem cells_new (w : World) (cs : Array Value) (t : TypeId) : ∀ j u, cs.toList[j]? = some u → (w.alloc (.cells cs t)).cell? ((⟨w.heap.size, 0, none⟩ : Addr).add j) = some u := by
  intro j u hj
  have := (At.new w t cs).cell j
  rw [Array.getElem?_toList] at hj
  rw [← hj, ← this]
  by_cases h0 : j = 0 <;> simp [Addr.add, h0]
theorem At.kept' {W W' : World} {row : Option Nat} {B : Nat} {t : TypeId} {cs : Array Value} (h : At W B t cs) (hg : W.grownBy W' row) (hne : some B ≠ row) : At W' B t cs := (hg.block B h.lt hne).trans h
theorem At.not_row {W : World} {B : Nat} {t e : TypeId} {cs : Array Value} (h : At W B t cs) (hte : t ≠ e) {base size k : Nat} {v : Value} {xs : List Value} (hr : W.ownsRow base e size v k xs) : some B ≠ v.ownBlock := by
  rcases hr.2 with ⟨rfl, _⟩ | ⟨g, cap, cur, rfl, _, hgb, _⟩
  · simp [Value.ownBlock]
  · intro e'
    obtain rfl : B = g := by simpa [Value.ownBlock] using e'
    have := (show W.heap[B]? = _ from h).symm.trans hgb
    simp at this
    exact hte this.2
theorem at_other {W : World} {B B' : Nat} {t : TypeId} {cs : Array Value} (h : At W B t cs) (hne : B ≠ B') (u : Value) : At (W.setCell ⟨B', 0, none⟩ u) B t cs := h.far hne u
/-- A place's cells. -/
def plCells (c : Cf) (k : Ky) (s : Nat) : List Value := [.int .i64 s, .int .i64 (idx c k s)]
theorem pl_snoc (c : Cf) (k : Ky) (pre : List Nat) (x : Nat) : (pre ++ [x]).flatMap (plCells c k) = pre.flatMap (plCells c k) ++ plCells c k x := by simp
/-- What is left off behind so many; below 0: never. -/
def cutN (most : Int) (xs : List Nat) : List Nat := if most < 0 then xs else xs.take most.toNat
theorem range_prefix {k m : Nat} (h : k ≤ m) : List.range k <+: List.range m := by
  obtain ⟨d, rfl⟩ := Nat.exists_eq_add_of_le h
  induction d with
  | zero => exact List.prefix_refl _
  | succ d ih =>
    refine (ih (by omega)).trans ?_
    rw [show k + (d + 1) = (k + d) + 1 by omega, List.range_succ]
    exact List.prefix_append _ _
end Go.Proofs.Ytgjecemmejaieaa

/-
  Small laws that the statements on families and filters share.
-/
namespace Go.Proofs.Ytgjecemmejaieaa
open Go.RowKit
theorem kvld_akey (n : Int) (v6 udp : Bool) : kvld (akey n v6 udp) = true := by
  unfold akey
  generalize (n % 1073741824).toNat = m
  cases v6 <;> cases udp <;> rfl
theorem ac_one (a : Adr) : (ac a).all (·.oneCell') = true := by
  rw [Array.all_eq_true']
  intro v hv
  simp only [ac, List.mem_toArray, Adr.l, List.mem_cons, u8s, List.mem_map] at hv
  rcases hv with rfl | ⟨a, _, rfl⟩ <;> rfl
theorem bitsOf_length (c : Cf) (k : Ky) (h : kvld k = true) : (bitsOf c k).length = c.hashes.toNat := by
  unfold bitsOf; rw [if_pos h, bitsUpto_length]
theorem bitsOf_bounds (c : Cf) (k : Ky) (t : Nat) (h : t < (bitsOf c k).length) (hb : 1 ≤ c.bloom) : 0 ≤ (bitsOf c k).getD t 0 ∧ (bitsOf c k).getD t 0 < c.bloom := by
  have hm : (bitsOf c k).getD t 0 ∈ bitsOf c k := by
    rw [List.getD_eq_getElem?_getD, List.getElem?_eq_getElem h]; exact List.getElem_mem h
  generalize (bitsOf c k).getD t 0 = x at hm
  unfold bitsOf at hm
  split at hm
  · obtain ⟨i, _, rfl⟩ := List.mem_map.1 hm
    exact ⟨Int.emod_nonneg _ (by omega), Int.emod_lt_of_pos _ (by omega)⟩
  · simp at hm
end Go.Proofs.Ytgjecemmejaieaa

/-
  bloom: a filter's cells; New.
-/
namespace Go.Proofs.Ytgjecemmejaieaa
open Go.RowKit
def wd (ws : List Nat) : Array Value := (ws.map fun x => Value.int .u64 (x : Nat)).toArray
@[go_sem] theorem wd_size (ws : List Nat) : (wd ws).size = ws.length := by simp [wd]
theorem wd_get (ws : List Nat) (j : Nat) (h : j < ws.length) : (wd ws)[j]? = some (.int .u64 (ws.getD j 0 : Nat)) := by
  simp [wd, List.getD_eq_getElem?_getD, List.getElem?_eq_getElem h]
theorem wd_set (ws : List Nat) (j x : Nat) : (wd ws).setIfInBounds j (.int .u64 (x : Nat)) = wd (ws.set j x) := by
  simp [wd, List.map_set]
def bcs (gf N gw n : Nat) : Array Value := #[.pointer (some ⟨gf, 0, none⟩), .int .i64 N, .slice (some ⟨gw, 0, none⟩) n n]
@[go_sem] theorem bcs_0 (gf N gw n : Nat) : (bcs gf N gw n)[0]? = some (.pointer (some ⟨gf, 0, none⟩)) := rfl
@[go_sem] theorem bcs_1 (gf N gw n : Nat) : (bcs gf N gw n)[1]? = some (.int .i64 N) := rfl
@[go_sem] theorem bcs_2 (gf N gw n : Nat) : (bcs gf N gw n)[2]? = some (.slice (some ⟨gw, 0, none⟩) n n) := rfl
theorem infoU64 : (Try.prog.info? 131).map (fun i => (i.zero, i.size, i.bytes)) = some (some (.int .u64 0), 1, 8) := by kernel_rfl
theorem made_words (n : Nat) : madeCells #[Value.int .u64 0] n = wd (List.replicate n 0) := by
  apply Array.ext_getElem?
  intro t
  unfold madeCells
  rw [Array.getElem?_map]
  by_cases h : t < n
  · rw [Array.getElem?_range, if_pos h, wd_get _ _ (by simpa using h)]
    simp [Nat.mod_one, h]
  · rw [Array.getElem?_range, if_neg h, Array.getElem?_eq_none (by rw [wd_size, List.length_replicate]; omega)]
    rfl
theorem makeW (n : Nat) (hn : n ≤ 1024) (w : World) : (Instr.makeSlice 127 (.int .i64 (n : Int)) (.int .i64 (n : Int))).run Try.prog w = .ok (.slice (some ⟨w.heap.size, 0, none⟩) n n) (w.alloc (.cells (wd (List.replicate n 0)) 131)) := by
  obtain ⟨i0, hi, hz0, hz1, hz2⟩ := info_parts infoU64
  have := run_make (P := Try.prog) w 127 131 i0 _ Try.underlying127 hi hz0 .i64 .i64 n n (by omega) (by omega) (by rw [hz2]; omega) (by omega)
  rw [hz1, Int.toNat_natCast, Nat.mul_one] at this
  rw [this]
  exact congrArg (fun c => Result.ok (Value.slice (some ⟨w.heap.size, 0, none⟩) n n) (w.alloc (.cells c 131))) (made_words n)
/-- How many words so many bits take. -/
def nw (N : Nat) : Nat := (N + 63) / 64
theorem nw_le (N : Nat) (h : N ≤ 65536) : nw N ≤ 1024 := by unfold nw; omega
set_option maxRecDepth 100000 in
set_option maxHeartbeats 2000000 in
theorem bnew_ok (gf N : Nat) (h1 : 1 ≤ N) (h2 : N ≤ 65536) (w : World) :
    Calls Try.prog 45 #[.pointer (some ⟨gf, 0, none⟩), .int .i64 N] w fun e w' => e = .returned (.tuple #[.pointer (some ⟨w.heap.size + 1, 0, none⟩), .int .i64 0]) ∧ w' = (w.alloc (.cells (wd (List.replicate (nw N) 0)) 131)).alloc (.cells (bcs gf N w.heap.size (nw N)) 129) := by
  have hmk := makeW (nw N) (nw_le N h2)
  have hq : ((N : Int) + 64 - 1) / 64 = (nw N : Nat) := by unfold nw; omega
  have hq2 : ((N : Int) + 63) / 64 = (nw N : Nat) := by unfold nw; omega
  have H := Lib.hid (show bcs gf N w.heap.size (nw N) = #[.pointer (some ⟨gf, 0, none⟩), .int .i64 N, .slice (some ⟨w.heap.size, 0, none⟩) (nw N) (nw N)] from rfl)
  rw [H.out]
  have hN1 := nw_le N h2
  generalize nw N = m at *
  go_enter Try.func45, Try.ntmps45
  go_wp2_with fail
  go_ret2
  exact ⟨rfl, rfl⟩
set_option maxRecDepth 100000 in
set_option maxHeartbeats 1000000 in
theorem bnew_nil (n : Int) (w : World) : Calls Try.prog 45 #[.pointer none, .int .i64 n] w fun e w' => e = .returned (.tuple #[.pointer none, .int .i64 1]) ∧ w' = w := by
  go_enter Try.func45, Try.ntmps45
  go_wp2_with fail
  go_ret2
  exact ⟨rfl, rfl⟩
set_option maxRecDepth 100000 in
set_option maxHeartbeats 1000000 in
theorem bnew_no (gf : Nat) (n : Int) (h : n < 1 ∨ 65536 < n) (w : World) : Calls Try.prog 45 #[.pointer (some ⟨gf, 0, none⟩), .int .i64 n] w fun e w' => e = .returned (.tuple #[.pointer none, .int .i64 1]) ∧ w' = w := by
  rcases h with h | h
  · go_enter Try.func45, Try.ntmps45
    go_wp2_with fail
    go_ret2
    exact ⟨rfl, rfl⟩
  · have h' : decide (n < 1) = false := by simp; omega
    go_enter Try.func45, Try.ntmps45
    go_wp2_with fail
    go_ret2
    exact ⟨rfl, rfl⟩
end Go.Proofs.Ytgjecemmejaieaa

/-
  bloom: a flow's places in a filter.
-/
namespace Go.Proofs.Ytgjecemmejaieaa
open Go.RowKit
theorem OI.set {w : World} {base g n c : Nat} {l : List Int} (h : OI w base (.slice (some ⟨g, 0, none⟩) n c) l) (i : Nat) (x : Int) (_ : i < l.length) :
    OI (w.setCell ⟨g, i, none⟩ (.int .i64 x)) base (.slice (some ⟨g, 0, none⟩) n c) (l.set i x) := by
  obtain ⟨h1, h2⟩ := h
  rcases h2 with ⟨h0, _⟩ | ⟨g', cap, cur, h0, h4, h5, h6, h7, h8, h9⟩
  · cases h0
  · cases h0
    refine ⟨by simp [i64s], .inr ⟨g, c, cur.setIfInBounds i (.int .i64 x), by rw [List.length_set], h4, heap_setCell_same w g i cur _ _ h5, by rw [List.length_set]; exact h6, h7, by rw [Array.size_setIfInBounds]; exact h8, ?_⟩⟩
    rw [Array.toList_setIfInBounds, List.length_set, List.take_set, h9]
    unfold i64s
    rw [List.map_set]
theorem OI.block {w : World} {base : Nat} {v : Value} {l : List Int} (h : OI w base v l) (hl : 0 < l.length) : ∃ g c, v = .slice (some ⟨g, 0, none⟩) l.length c ∧ base ≤ g ∧ g < w.heap.size ∧ (∀ i, i < l.length → w.cell? ⟨g, i, none⟩ = some (.int .i64 (l.getD i 0))) ∧ (∀ i, i < l.length → w.frozen? ⟨g, i, none⟩ = false) ∧ l.length ≤ c := by
  obtain ⟨h1, h2⟩ := h
  rcases h2 with ⟨_, h0⟩ | ⟨g, cap, cur, rfl, h4, h5, h6, h7, h8, h9⟩
  · omega
  · refine ⟨g, cap, rfl, h4, (Array.getElem?_eq_some_iff.1 h5).1, fun i hi => ?_, fun i hi => frozen_of_row w g i cur _ h5, h6⟩
    rw [cell_of_row w g i cur _ (0, 0) h5]
    have := congrArg (fun x : List Value => x[i]?) h9
    simp only [List.getElem?_take, Nat.mul_one, if_pos hi, i64s, List.getElem?_map] at this
    rw [← Array.getElem?_toList, this, List.getElem?_eq_getElem hi, List.getD_eq_getElem?_getD, List.getElem?_eq_getElem hi]
    rfl
theorem OI.drew {w : World} {base : Nat} {v : Value} {l : List Int} (h : OI w base v l) : OI w.drew base v l := h
/-- A flow's places in a filter of N bits. -/
def plcs (c : Cf) (k : Ky) (N : Nat) : List Int := (bitsOf c k).map (· % (N : Int))
/-- The first t of them are reckoned. -/
def plT (L : List Int) (N t : Nat) : List Int := (L.take t).map (· % (N : Int)) ++ L.drop t
theorem plT_length (L : List Int) (N t : Nat) : (plT L N t).length = L.length := by simp [plT]; omega
theorem plT_get (L : List Int) (N t : Nat) (h : t < L.length) : (plT L N t).getD t 0 = L.getD t 0 := by
  unfold plT
  rw [List.getD_eq_getElem?_getD, List.getElem?_append_right (by simp only [List.length_map, List.length_take]; exact Nat.min_le_left _ _)]
  simp only [List.length_map, List.length_take, List.getElem?_drop]
  rw [show t + (t - min t L.length) = t by omega, List.getD_eq_getElem?_getD]
theorem plT_set (L : List Int) (N t : Nat) (h : t < L.length) : (plT L N t).set t (L.getD t 0 % (N : Int)) = plT L N (t + 1) := by
  unfold plT
  rw [List.set_append_right _ _ (by simp only [List.length_map, List.length_take]; exact Nat.min_le_left _ _)]
  simp only [List.length_map, List.length_take]
  rw [show t - min t L.length = 0 by omega, List.drop_eq_getElem_cons h, List.set_cons_zero, List.take_succ_eq_append_getElem h, List.map_append, List.append_assoc]
  congr 1
  simp [List.getD_eq_getElem?_getD, List.getElem?_eq_getElem h]
theorem bitsOf_nonneg (c : Cf) (k : Ky) (t : Nat) (h : t < (bitsOf c k).length) (hb : 1 ≤ c.bloom) : 0 ≤ (bitsOf c k).getD t 0 := (bitsOf_bounds c k t h hb).1
set_option maxRecDepth 100000 in
set_option maxHeartbeats 4000000 in
theorem places_any (gb gw n gf : Nat) (c : Cf) (k : Ky) (N : Nat) (w : World) (hB : At w gb 129 (bcs gf N gw n)) (hF : At w gf 100 (fc c)) (hN : 1 ≤ N) (hN2 : N ≤ 65536) (h1 : 0 ≤ c.hashes) (h2 : c.hashes ≤ 80) (hb1 : 1 ≤ c.bloom) :
    Calls Try.prog 51 #[.pointer (some ⟨gb, 0, none⟩), .agg (kc k)] w fun e w' => ∃ v, e = .returned v ∧ OI w' w.heap.size v (plcs c k N) ∧ Below w.heap.size w w' := by
  have B := Lib.hid hB
  have F := Lib.hid hF
  have HL := Lib.hid (show (bitsOf c k).length ≤ 80 by unfold bitsOf; split <;> simp [bitsUpto_length]; omega)
  have hBl := hB.lt
  clear hB hF
  go_enter Try.func51, Try.ntmps51
  have HB := Lib.hid (Below.refl w.heap.size w)
  
  
  have r_B := B.out.row
  have o_B := B.out.open
  have l_B := B.out.lt
  have c_B := B.out.cell
  have z_B := B.out.frozen
  have r_F := F.out.row
  have o_F := F.out.open
  have l_F := F.out.lt
  have c_F := F.out.cell
  have z_F := F.out.frozen
  go_wp2_with fail
  clear r_B o_B l_B c_B z_B r_F o_F l_F c_F z_F
  have HBp := HB
  have K := at_new w 57 (kc k) (w.heap.size) rfl
  replace HB := Lib.hid (HB.out.alloc HB.out.size (.cells (kc k) 57))
  have Bp := B
  replace B := Lib.hid (B.out.alloc (.cells (kc k) 57))
  have Fp := F
  replace F := Lib.hid (F.out.alloc (.cells (kc k) 57))
  obtain ⟨gk, hg⟩ : ∃ g, g = w.heap.size := ⟨_, rfl⟩
  have hgs : gk = w.heap.size := by rw [hg]
  have b_gk : w.heap.size ≤ gk := by rw [hgs]; exact HBp.out.size
  have S_w1 := Lib.hid (show (w.alloc (.cells (kc k) 57)).heap.size = gk + 1 by rw [World.size_alloc, hgs])
  rw [← hg] at K
  try rw [← hg]
  have ne_B_K : gb ≠ gk := by have := Bp.out.lt; omega
  have ne_K_B : gk ≠ gb := fun h => ne_B_K h.symm
  have ne_F_K : gf ≠ gk := by have := Fp.out.lt; omega
  have ne_K_F : gk ≠ gf := fun h => ne_F_K h.symm
  clear hg hgs HBp Bp Fp
  replace K := Lib.hid K
  generalize w.alloc (.cells (kc k) 57) = w1 at *
  have r_B := B.out.row
  have o_B := B.out.open
  have l_B := B.out.lt
  have c_B := B.out.cell
  have z_B := B.out.frozen
  have r_F := F.out.row
  have o_F := F.out.open
  have l_F := F.out.lt
  have c_F := F.out.cell
  have z_F := F.out.frozen
  have r_K := K.out.row
  have o_K := K.out.open
  have l_K := K.out.lt
  have c_K := K.out.cell
  have z_K := K.out.frozen
  refine region_sq (fun _ => False) [(0, true), (1, true), (2, true), (3, true), (4, true), (5, false), (6, true)] (by kernel_rfl) (by kernel_rfl) (fun _ _ d _ _ h => by cases d <;> exact h) ?_
  repeat (first
    | (refine sq_yes rfl (by rfl) (fun w' hM => by ((try replace hM := hM.of_drew); obtain ⟨hR1, hR2, hR3⟩ := hM.rules; clear hM; go_simp; with_reducible rfl)) ?_; simp only [Act.put, List.setIfInBounds_toArray, List.set_cons_zero, List.set_cons_succ])
    | (refine sq_no rfl (by rfl) ?_; simp only [Act.put, List.setIfInBounds_toArray, List.set_cons_zero, List.set_cons_succ]))
  clear r_B o_B l_B c_B z_B r_F o_F l_F c_F z_F r_K o_K l_K c_K z_K
  replace B := Lib.hid B.out.drew
  replace F := Lib.hid F.out.drew
  replace K := Lib.hid K.out.drew
  replace HB := Lib.hid HB.out.drew
  generalize w1.drew = w2 at *
  refine sq_do_yes rfl (by rfl) (fun K_ hK_ => ?_)
  go_wp2_with fail
  refine (bits_any gf c k _ F.out h1 h2 hb1).mono ?_
  rintro e w3 ⟨v, rfl, ho, hb⟩
  have hbs : Below w2.heap.size w2 w3 := step_below (by first | exact Below.refl _ _ | exact (Below.refl _ _).drew | exact (Below.refl _ _).alloc (Nat.le_refl _) _ | exact ((Below.refl _ _).alloc (Nat.le_refl _) _).drew | exact ((Below.refl _ _).drew).alloc (Nat.le_refl _) _ | exact ((Below.refl _ _).alloc (Nat.le_refl _) _).alloc (by simp) _ | exact (((Below.refl _ _).alloc (Nat.le_refl _) _).alloc (by simp) _).drew | exact (((Below.refl _ _).alloc (Nat.le_refl _) _).alloc (by simp) _).alloc (by simp; omega) _) hb
  try clear HBz
  have HBz := HB.out.size
  replace HB := Lib.hid (step_below HB.out hbs)
  replace B := Lib.hid (B.out.below hbs B.out.lt)
  replace F := Lib.hid (F.out.below hbs F.out.lt)
  replace K := Lib.hid (K.out.below hbs K.out.lt)
  clear hbs
  have O := Lib.hid ho
  clear ho
  go_wp2_with fail
  refine ⟨Mod.of_below hb, ?_⟩
  clear hb
  have r_B := B.out.row
  have o_B := B.out.open
  have l_B := B.out.lt
  have c_B := B.out.cell
  have z_B := B.out.frozen
  have r_F := F.out.row
  have o_F := F.out.open
  have l_F := F.out.lt
  have c_F := F.out.cell
  have z_F := F.out.frozen
  have r_K := K.out.row
  have o_K := K.out.open
  have l_K := K.out.lt
  have c_K := K.out.cell
  have z_K := K.out.frozen
  repeat (first
    | (refine sq_yes rfl (by rfl) (fun w' hM => by ((try replace hM := hM.of_drew); obtain ⟨hR1, hR2, hR3⟩ := hM.rules; clear hM; go_simp; with_reducible rfl)) ?_; simp only [Act.put, List.setIfInBounds_toArray, List.set_cons_zero, List.set_cons_succ])
    | (refine sq_no rfl (by rfl) ?_; simp only [Act.put, List.setIfInBounds_toArray, List.set_cons_zero, List.set_cons_succ]))
  clear r_B o_B l_B c_B z_B r_F o_F l_F c_F z_F r_K o_K l_K c_K z_K
  refine sq_end ?_
  replace O := Lib.hid (O.out.base HBz)
  have HL0 := Lib.hid (show bitsOf c k = plT (bitsOf c k) N 0 from rfl)
  have HPL := Lib.hid (show plcs c k N = plT (bitsOf c k) N (bitsOf c k).length by unfold plcs plT; simp)
  have HNN := Lib.hid (fun t (h : t < (bitsOf c k).length) => bitsOf_nonneg c k t h hb1)
  have LB := Lib.hid hBl
  obtain ⟨a, m, q, rfl, hm, _, _⟩ := O.out.parts
  have M := Lib.hid hm
  have hm80 : m ≤ 80 := by have := HL.out; omega
  clear hm hBl
  generalize bitsOf c k = L at *
  go_wp2_with fail
  clear F K
  
  
  rw [HL0.out] at O
  go_loopw [6, 17] (fun _ i wr => ∃ t : Nat, t ≤ m ∧ i = .int .i64 t ∧ At wr gb 129 (bcs gf N gw n) ∧ OI wr w.heap.size (.slice a m q) (plT L N t) ∧ Below w.heap.size w wr) (fun _ i _ => m - (intOf i).toNat)
  case atStart => exact ⟨0, Nat.zero_le _, rfl, B.out, O.out, HB.out⟩
  case round =>
    obtain ⟨t, ht, rfl, hB_, hO_, hBel_⟩ := hrel
    have B := Lib.hid hB_
    have O := Lib.hid hO_
    have HB := Lib.hid hBel_
    clear hB_ hO_ hBel_
    by_cases hlt : t < m
    · have htl : t < L.length := by rw [← M.out]; exact hlt
      have hpl : (plT L N t).length = m := by rw [plT_length, M.out]
      obtain ⟨g, q', hv, hg, lg, hcell, hfro, _⟩ := O.out.block (by rw [hpl]; omega)
      have x0 := hcell t (by rw [hpl]; exact hlt)
      rw [plT_get _ _ _ htl] at x0
      have hxn := HNN.out t htl
      have PS := Lib.hid (plT_set L N t htl)
      clear hcell hfro hpl
      simp only [Value.slice.injEq] at hv
      obtain ⟨ha, hm1, hm2⟩ := hv
      subst ha
      clear hm1 hm2
      obtain ⟨x, hx⟩ : ∃ x, x = L.getD t 0 := ⟨_, rfl⟩
      rw [← hx] at x0 hxn PS
      have hix : x.tmod (N : Int) = x % (N : Int) := Int.tmod_eq_emod_of_nonneg hxn
      have hz : ¬ N = 0 := by omega
      have hgb : gb ≠ g := by have := LB.out; omega
      clear hx hxn
      have r_B := B.out.row
      have o_B := B.out.open
      have l_B := B.out.lt
      have c_B := B.out.cell
      have z_B := B.out.frozen
      go_wp2_with fail
      clear r_B o_B l_B c_B z_B
      have r_B := B.out.row
      have o_B := B.out.open
      have l_B := B.out.lt
      have c_B := B.out.cell
      have z_B := B.out.frozen
      refine region_sq2 (fun _ => False) (fun i => i = g) [(0, true), (1, true), (2, true), (3, true), (4, true), (5, true), (6, true), (7, true), (8, true), (9, true)] [(10, false)] (by kernel_rfl) (by kernel_rfl) (fun _ _ d _ _ h => by cases d <;> exact h) ?_
      repeat (first
        | (refine sq_yes rfl (by rfl) (fun w' hM => by ((try replace hM := hM.of_drew); obtain ⟨hR1, hR2, hR3⟩ := hM.rules; clear hM; go_simp; with_reducible rfl)) ?_; simp only [Act.put, List.setIfInBounds_toArray, List.set_cons_zero, List.set_cons_succ])
        | (refine sq_no rfl (by rfl) ?_; simp only [Act.put, List.setIfInBounds_toArray, List.set_cons_zero, List.set_cons_succ]))
      clear r_B o_B l_B c_B z_B
      replace B := Lib.hid B.out.drew
      replace O := Lib.hid O.out.drew
      replace HB := Lib.hid HB.out.drew
      generalize wr.drew = w4 at *
      refine sq_end ?_
      obtain ⟨g', q'', hv, _, lg, hcell, hfro, _⟩ := O.out.block (by rw [plT_length]; omega)
      simp only [Value.slice.injEq, Option.some.injEq, Addr.mk.injEq, and_true] at hv
      obtain ⟨hg1, _⟩ := hv
      subst hg1
      have x0 := hcell t (by rw [plT_length]; exact htl)
      have f0 := hfro t (by rw [plT_length]; exact htl)
      have O3 := O.out.set t (x % (N : Int)) (by rw [plT_length]; exact htl)
      rw [PS.out] at O3
      have HO3 := Lib.hid O3
      clear hcell hfro O3
      refine sq_do_yes rfl (by rfl) (fun K_ hK_ => ?_)
      go_wp2_with fail
      have hM : Mod (fun i => i = g) w4 (w4.setCell ⟨g, t, none⟩ (.int .i64 (x % (N : Int)))) := (Mod.refl _ _).setCell _ _ (fun _ => rfl)
      refine ⟨hM, ?_⟩
      refine sq_end ?_
      replace B := Lib.hid (B.out.mod hM hgb)
      replace HB := Lib.hid (HB.out.setCell (p := ⟨g, t, none⟩) hg (.int .i64 (x % (N : Int))))
      replace O := HO3
      clear hM x0 f0 HO3
      generalize w4.setCell ⟨g, t, none⟩ (.int .i64 (x % (N : Int))) = w5 at *
      go_wp2_with fail
      go_roundw
      case rel => exact ⟨t + 1, by omega, by go_num, B.out, O.out, HB.out⟩
      case measure => simp [intOf]; omega
    · obtain rfl : m = t := by omega
      go_wp2_with fail
      go_ret
      exact ⟨_, rfl, by rw [HPL.out, ← M.out]; exact O.out, HB.out⟩
set_option maxRecDepth 100000 in
theorem places_nil (k : Ky) (w : World) : Calls Try.prog 51 #[.pointer none, .agg (kc k)] w fun e w' => e = .returned (.slice none 0 0) ∧ Below w.heap.size w w' := by
  go_enter Try.func51, Try.ntmps51
  go_wp2_with fail
  go_ret
  exact ⟨rfl, (Below.refl _ w).alloc (Nat.le_refl _) _⟩
end Go.Proofs.Ytgjecemmejaieaa

/-
  bloom: a bit, Has.
-/
namespace Go.Proofs.Ytgjecemmejaieaa
open Go.RowKit
/-- Is a bit set? -/
def bt (ws : List Nat) (i : Nat) : Bool := (ws.getD (i / 64) 0).testBit (i % 64)
theorem u64_and_nat (a b : Nat) (ha : a < 18446744073709551616) (hb : b < 18446744073709551616) : bits .and .u64 (a : Int) (b : Int) = ((a &&& b : Nat) : Int) := by
  have hx : a &&& b < 2 ^ 64 := Nat.and_lt_two_pow _ (by omega)
  have h1 : ∀ q : Nat, q < 18446744073709551616 → (BitVec.ofInt 64 (q : Int)).toNat = q := fun q hq => by
    rw [BitVec.ofInt_natCast, BitVec.toNat_ofNat]; exact Nat.mod_eq_of_lt (by omega)
  show IntKind.u64.wrap ((BitVec.ofInt 64 (a : Int) &&& BitVec.ofInt 64 (b : Int)).toNat : Int) = _
  rw [BitVec.toNat_and, h1 a ha, h1 b hb, IntKind.wrap_u64]
  omega
theorem u64_or_nat (a b : Nat) (ha : a < 18446744073709551616) (hb : b < 18446744073709551616) : bits .or .u64 (a : Int) (b : Int) = ((a ||| b : Nat) : Int) := by
  have hx : a ||| b < 2 ^ 64 := Nat.or_lt_two_pow (by omega) (by omega)
  have h1 : ∀ q : Nat, q < 18446744073709551616 → (BitVec.ofInt 64 (q : Int)).toNat = q := fun q hq => by
    rw [BitVec.ofInt_natCast, BitVec.toNat_ofNat]; exact Nat.mod_eq_of_lt (by omega)
  show IntKind.u64.wrap ((BitVec.ofInt 64 (a : Int) ||| BitVec.ofInt 64 (b : Int)).toNat : Int) = _
  rw [BitVec.toNat_or, h1 a ha, h1 b hb, IntKind.wrap_u64]
  omega
theorem bit_fact (x r : Nat) (hx : x < 18446744073709551616) : decide (0 < bits .and .u64 ((x : Int) / 2 ^ r) 1) = x.testBit r := by
  have e : (x : Int) / 2 ^ r = ((x / 2 ^ r : Nat) : Int) := by rw [Int.natCast_ediv, Int.natCast_pow]; rfl
  have hlt : x / 2 ^ r < 18446744073709551616 := Nat.lt_of_le_of_lt (Nat.div_le_self _ _) hx
  rw [e, show (1 : Int) = ((1 : Nat) : Int) from rfl, u64_and_nat _ _ hlt (by omega), Nat.testBit_eq_decide_div_mod_eq, Nat.and_one_is_mod]
  have := Nat.mod_two_eq_zero_or_one (x / 2 ^ r)
  rcases this with h | h <;> rw [h] <;> decide
theorem getD_lt (ws : List Nat) (j : Nat) (hx : ∀ x ∈ ws, x < 18446744073709551616) : ws.getD j 0 < 18446744073709551616 := by
  rw [List.getD_eq_getElem?_getD]
  cases h : ws[j]? with
  | none => simp
  | some y => exact hx y (List.mem_of_getElem? h)
set_option maxRecDepth 100000 in
set_option maxHeartbeats 4000000 in
theorem set_any (gb gw gf : Nat) (N n i : Nat) (ws : List Nat) (w : World) (hB : At w gb 129 (bcs gf N gw n)) (hW : At w gw 131 (wd ws)) (hn : n ≤ 1024) (hl : ws.length = n) (hi : i < n * 64) (hx : ∀ x ∈ ws, x < 18446744073709551616) :
    Calls Try.prog 52 #[.pointer (some ⟨gb, 0, none⟩), .int .i64 i] w fun e w' => e = .returned (.bool (bt ws i)) ∧ w' = w := by
  have B := Lib.hid hB
  obtain ⟨j, hj⟩ : ∃ j, j = i / 64 := ⟨_, rfl⟩
  obtain ⟨r, hr⟩ : ∃ r, r = i % 64 := ⟨_, rfl⟩
  have hjn : j < n := by omega
  have hc := hW.cell j
  rw [wd_get ws j (by omega)] at hc
  obtain ⟨x, hxx⟩ : ∃ x, x = ws.getD j 0 := ⟨_, rfl⟩
  rw [← hxx] at hc
  have hlw := hW.lt
  have q1 : (i : Int) / 64 = (j : Int) := by omega
  have q2 : (i : Int) % 64 = (r : Int) := by omega
  have HBT := Lib.hid (show bt ws i = x.testBit r by unfold bt; rw [← hj, ← hr, hxx])
  have hx64 : x < 18446744073709551616 := by rw [hxx]; exact getD_lt ws j hx
  have HF := Lib.hid (bit_fact x r hx64)
  clear hB hW hj hr hxx hx hx64
  go_enter Try.func52, Try.ntmps52
  have HB := Lib.hid (Below.refl w.heap.size w)
  
  have r_B := B.out.row
  have o_B := B.out.open
  have l_B := B.out.lt
  have c_B := B.out.cell
  have z_B := B.out.frozen
  go_wp2_with fail
  clear r_B o_B l_B c_B z_B
  go_ret
  exact ⟨by rw [HBT.out, ← HF.out]; rfl, rfl⟩
/-- A flow's places in a filter of N bits, as numbers. -/
def pN (c : Cf) (k : Ky) (N : Nat) : List Nat := (bitsOf c k).map fun b => (b % (N : Int)).toNat
theorem pN_lt (c : Cf) (k : Ky) (N : Nat) (h : 1 ≤ N) : ∀ p ∈ pN c k N, p < N := by
  intro p hp
  obtain ⟨b, _, rfl⟩ := List.mem_map.1 hp
  have := Int.emod_lt_of_pos b (show (0 : Int) < N by omega)
  have := Int.emod_nonneg b (show (N : Int) ≠ 0 by omega)
  omega
theorem plcs_eq (c : Cf) (k : Ky) (N : Nat) (h : 1 ≤ N) : plcs c k N = (pN c k N).map fun p : Nat => (p : Int) := by
  unfold plcs pN
  rw [List.map_map]
  apply List.map_congr_left
  intro b _
  have := Int.emod_nonneg b (show (N : Int) ≠ 0 by omega)
  simp only [Function.comp_apply]
  omega
theorem places_n (gb gw n gf : Nat) (c : Cf) (k : Ky) (N : Nat) (w : World) (hB : At w gb 129 (bcs gf N gw n)) (hF : At w gf 100 (fc c)) (hN : 1 ≤ N) (hN2 : N ≤ 65536) (h1 : 0 ≤ c.hashes) (h2 : c.hashes ≤ 80) (hb1 : 1 ≤ c.bloom) :
    Calls Try.prog 51 #[.pointer (some ⟨gb, 0, none⟩), .agg (kc k)] w fun e w' => ∃ a m q, e = .returned (.slice a m q) ∧ m = (pN c k N).length ∧ Ints w' a m ((pN c k N).map fun p : Nat => (p : Int)) ∧ (∀ b o, a = some ⟨b, o, none⟩ → w.heap.size ≤ b) ∧ Below w.heap.size w w' :=
  (places_any gb gw n gf c k N w hB hF hN hN2 h1 h2 hb1).mono fun e w' ⟨v, he, ho, hb⟩ => by
    rw [plcs_eq c k N hN] at ho
    obtain ⟨a, m, q, rfl, hm, hy, _⟩ := ho.parts
    refine ⟨a, m, q, he, by simpa using hm, hy, fun b o hab => ?_, hb⟩
    subst hab
    exact ho.ge rfl
theorem pN_length (c : Cf) (k : Ky) (N : Nat) (h2 : c.hashes ≤ 80) : (pN c k N).length ≤ 80 := by
  unfold pN bitsOf; rw [List.length_map]; split <;> simp [bitsUpto_length]; omega
/-- Are all of them set? -/
def hasB (ws L : List Nat) : Bool := L.all (bt ws) && !L.isEmpty
theorem all_take (f : Nat → Bool) (L : List Nat) (t : Nat) (h : t < L.length) (h1 : (L.take t).all f = true) (h2 : f (L.getD t 0) = true) : (L.take (t + 1)).all f = true := by
  rw [List.take_succ_eq_append_getElem h, List.all_append, h1]
  simpa [List.getD_eq_getElem?_getD, List.getElem?_eq_getElem h] using h2
theorem all_no (f : Nat → Bool) (L : List Nat) (t : Nat) (h : t < L.length) (h2 : f (L.getD t 0) = false) : L.all f = false := by
  rw [List.all_eq_false]
  exact ⟨L.getD t 0, by rw [List.getD_eq_getElem?_getD, List.getElem?_eq_getElem h]; exact List.getElem_mem h, by simpa using h2⟩
theorem cast_get (L : List Nat) (t : Nat) : (L.map fun p : Nat => (p : Int)).getD t 0 = ((L.getD t 0 : Nat) : Int) := by
  rw [List.getD_eq_getElem?_getD, List.getD_eq_getElem?_getD, List.getElem?_map]
  cases L[t]? <;> rfl
theorem getD_memB (L : List Nat) (t : Nat) (h : t < L.length) : L.getD t 0 ∈ L := by
  rw [List.getD_eq_getElem?_getD, List.getElem?_eq_getElem h]; exact List.getElem_mem h
set_option maxRecDepth 100000 in
set_option maxHeartbeats 4000000 in
theorem has_any (gb gw gf : Nat) (c : Cf) (k : Ky) (N n : Nat) (ws : List Nat) (w : World) (hB : At w gb 129 (bcs gf N gw n)) (hW : At w gw 131 (wd ws)) (hF : At w gf 100 (fc c)) (hN : 1 ≤ N) (hN2 : N ≤ 65536) (hn : n = nw N) (hl : ws.length = n) (hx : ∀ x ∈ ws, x < 18446744073709551616) (h1 : 0 ≤ c.hashes) (h2 : c.hashes ≤ 80) (hb1 : 1 ≤ c.bloom) :
    Calls Try.prog 36 #[.pointer (some ⟨gb, 0, none⟩), .agg (kc k)] w fun e w' => e = .returned (.bool (hasB ws (pN c k N))) ∧ Below w.heap.size w w' := by
  have B := Lib.hid hB
  have F := Lib.hid hF
  have Wd := Lib.hid hW
  have hNn : N ≤ n * 64 ∧ n ≤ 1024 := by rw [hn]; unfold nw; omega
  have HX := Lib.hid hx
  have HLT := Lib.hid (pN_lt c k N hN)
  have HL := Lib.hid (pN_length c k N h2)
  have HLL := Lib.hid hl
  clear hB hW hF hx hn hl
  go_enter Try.func36, Try.ntmps36
  have HB := Lib.hid (Below.refl w.heap.size w)
  
  
  
  go_wp2_with fail
  have HBp := HB
  have K := at_new w 57 (kc k) (w.heap.size) rfl
  replace HB := Lib.hid (HB.out.alloc HB.out.size (.cells (kc k) 57))
  have Bp := B
  replace B := Lib.hid (B.out.alloc (.cells (kc k) 57))
  have Fp := F
  replace F := Lib.hid (F.out.alloc (.cells (kc k) 57))
  have Wdp := Wd
  replace Wd := Lib.hid (Wd.out.alloc (.cells (kc k) 57))
  obtain ⟨gk, hg⟩ : ∃ g, g = w.heap.size := ⟨_, rfl⟩
  have hgs : gk = w.heap.size := by rw [hg]
  have b_gk : w.heap.size ≤ gk := by rw [hgs]; exact HBp.out.size
  have S_w1 := Lib.hid (show (w.alloc (.cells (kc k) 57)).heap.size = gk + 1 by rw [World.size_alloc, hgs])
  rw [← hg] at K
  try rw [← hg]
  have ne_B_K : gb ≠ gk := by have := Bp.out.lt; omega
  have ne_K_B : gk ≠ gb := fun h => ne_B_K h.symm
  have ne_F_K : gf ≠ gk := by have := Fp.out.lt; omega
  have ne_K_F : gk ≠ gf := fun h => ne_F_K h.symm
  have ne_Wd_K : gw ≠ gk := by have := Wdp.out.lt; omega
  have ne_K_Wd : gk ≠ gw := fun h => ne_Wd_K h.symm
  clear hg hgs HBp Bp Fp Wdp
  replace K := Lib.hid K
  generalize w.alloc (.cells (kc k) 57) = w1 at *
  have r_B := B.out.row
  have o_B := B.out.open
  have l_B := B.out.lt
  have c_B := B.out.cell
  have z_B := B.out.frozen
  have r_F := F.out.row
  have o_F := F.out.open
  have l_F := F.out.lt
  have c_F := F.out.cell
  have z_F := F.out.frozen
  have r_Wd := Wd.out.row
  have o_Wd := Wd.out.open
  have l_Wd := Wd.out.lt
  have c_Wd := Wd.out.cell
  have z_Wd := Wd.out.frozen
  have r_K := K.out.row
  have o_K := K.out.open
  have l_K := K.out.lt
  have c_K := K.out.cell
  have z_K := K.out.frozen
  go_wp2_with fail
  clear r_B o_B l_B c_B z_B r_F o_F l_F c_F z_F r_Wd o_Wd l_Wd c_Wd z_Wd r_K o_K l_K c_K z_K
  refine (places_n gb gw n gf c k N _ B.out F.out hN hN2 h1 h2 hb1).mono ?_
  rintro e w2 ⟨a, m, q, rfl, hm, hy, _, hb⟩
  have hbs : Below w1.heap.size w1 w2 := step_below (by first | exact Below.refl _ _ | exact (Below.refl _ _).drew | exact (Below.refl _ _).alloc (Nat.le_refl _) _ | exact ((Below.refl _ _).alloc (Nat.le_refl _) _).drew | exact ((Below.refl _ _).drew).alloc (Nat.le_refl _) _ | exact ((Below.refl _ _).alloc (Nat.le_refl _) _).alloc (by simp) _ | exact (((Below.refl _ _).alloc (Nat.le_refl _) _).alloc (by simp) _).drew | exact (((Below.refl _ _).alloc (Nat.le_refl _) _).alloc (by simp) _).alloc (by simp; omega) _) hb
  try clear HBz
  have HBz := HB.out.size
  replace HB := Lib.hid (step_below HB.out hbs)
  replace B := Lib.hid (B.out.below hbs B.out.lt)
  replace F := Lib.hid (F.out.below hbs F.out.lt)
  replace Wd := Lib.hid (Wd.out.below hbs Wd.out.lt)
  replace K := Lib.hid (K.out.below hbs K.out.lt)
  clear hbs
  clear hb
  have Y := Lib.hid hy
  have M := Lib.hid hm
  have hm80 : m ≤ 80 := by have := HL.out; omega
  clear hm hy
  obtain ⟨L, hLe⟩ : ∃ L, L = pN c k N := ⟨_, rfl⟩
  rw [← hLe] at Y M HL HLT
  have HH := Lib.hid (show hasB ws (pN c k N) = (L.all (bt ws) && !L.isEmpty) by rw [hLe]; rfl)
  clear hLe
  go_wp2_with fail
  clear F K
  go_loopw [7, 13] (fun _ i wr => ∃ t : Nat, t ≤ m ∧ i = .int .i64 t ∧ (L.take t).all (bt ws) = true ∧ At wr gb 129 (bcs gf N gw n) ∧ At wr gw 131 (wd ws) ∧ Ints wr a m (L.map fun p : Nat => (p : Int)) ∧ Below w.heap.size w wr) (fun _ i _ => m - (intOf i).toNat)
  case atStart => exact ⟨0, Nat.zero_le _, rfl, rfl, B.out, Wd.out, Y.out, HB.out⟩
  case round =>
    obtain ⟨t, ht, rfl, hall, hB_, hWd_, hY_, hBel_⟩ := hrel
    have B := Lib.hid hB_
    have Wd := Lib.hid hWd_
    have Y := Lib.hid hY_
    have HB := Lib.hid hBel_
    clear hB_ hWd_ hY_ hBel_
    have HA := Lib.hid hall
    clear hall
    by_cases hlt : t < m
    · have htl : t < L.length := by rw [← M.out]; exact hlt
      obtain ⟨b, o, rfl, lb, hc⟩ := Y.out.2 (by omega)
      have x0 := hc t hlt
      rw [cast_get] at x0
      obtain ⟨p, hp⟩ : ∃ p, p = L.getD t 0 := ⟨_, rfl⟩
      rw [← hp] at x0
      have hpN : p < N := by rw [hp]; exact HLT.out _ (getD_memB L t htl)
      have HP := Lib.hid hp
      clear hc hp
      go_wp2_with fail
      refine (set_any gb gw gf N n p ws _ B.out Wd.out hNn.2 HLL.out (by omega) HX.out).mono ?_
      rintro e w_ ⟨rfl, hw_⟩
      obtain rfl := hw_.symm
      clear hw_
      cases hbt : bt ws p
      · have HF0 := Lib.hid (all_no (bt ws) L t htl (by rw [← HP.out]; exact hbt))
        go_wp2_with fail
        go_ret
        exact ⟨by rw [HH.out, HF0.out]; rfl, HB.out⟩
      · have HT := Lib.hid (all_take (bt ws) L t htl HA.out (by rw [← HP.out]; exact hbt))
        go_wp2_with fail
        go_roundw
        case rel => exact ⟨t + 1, by omega, by go_num, HT.out, B.out, Wd.out, Y.out, HB.out⟩
        case measure => simp [intOf]; omega
    · obtain rfl : m = t := by omega
      have HE := Lib.hid (show hasB ws (pN c k N) = decide (0 < m) by
        have h := HA.out
        rw [List.take_of_length_le (Nat.le_of_eq M.out.symm)] at h
        rw [HH.out, h, M.out]
        cases L <;> simp)
      go_wp2_with fail
      go_ret
      exact ⟨by rw [HE.out]; simp, HB.out⟩
set_option maxRecDepth 100000 in
theorem has_nil (k : Ky) (w : World) : Calls Try.prog 36 #[.pointer none, .agg (kc k)] w fun e w' => e = .returned (.bool false) ∧ Below w.heap.size w w' := by
  go_enter Try.func36, Try.ntmps36
  go_wp2_with fail
  refine (places_nil k _).mono ?_
  rintro e w1 ⟨rfl, hb⟩
  have HB := Lib.hid (step_below ((Below.refl _ w).alloc (Nat.le_refl _) _) hb)
  clear hb
  go_wp2_with fail
  go_loopw [7, 13] (fun _ i wr => i = .int .i64 0 ∧ Below w.heap.size w wr) (fun _ _ _ => 0)
  case atStart => exact ⟨rfl, HB.out⟩
  case round =>
    obtain ⟨rfl, hb⟩ := hrel
    have HB2 := Lib.hid hb
    clear hb
    go_wp2_with fail
    go_ret
    exact ⟨rfl, HB2.out⟩
end Go.Proofs.Ytgjecemmejaieaa
