/-
  Texts in one, each behind those that it needs: FamKey.
-/
import Derived.Test.YtgjecemmejaieaaBac
import Derived.Laws.Cover3
/-
  Addresses and flows: their cells, what is read of them, addr.Valid, addr.Bytes, key.Valid, key.Bytes and the document's.
-/
namespace Go.Proofs.Ytgjecemmejaieaa
open Go.RowKit
structure Adr where
  v6 : Bool
  b : List Nat
  len : b.length = 16
  lt : ∀ x ∈ b, x < 256
structure Ky where
  proto : Nat
  src : Adr
  dst : Adr
  sp : Nat
  dp : Nat
  hp : proto < 256
  hs : sp < 65536
  hd : dp < 65536
def Adr.l (a : Adr) : List Value := .bool a.v6 :: u8s a.b
def ac (a : Adr) : Array Value := a.l.toArray
def Ky.l (k : Ky) : List Value := .int .u8 k.proto :: (k.src.l ++ (k.dst.l ++ [.int .u16 k.sp, .int .u16 k.dp]))
def kc (k : Ky) : Array Value := k.l.toArray
theorem Adr.l_length (a : Adr) : a.l.length = 17 := by simp [Adr.l, u8s, a.len]
theorem Ky.l_length (k : Ky) : k.l.length = 37 := by simp [Ky.l, Adr.l_length]
@[go_sem] theorem ac_size (a : Adr) : (ac a).size = 17 := a.l_length
@[go_sem] theorem kc_size (k : Ky) : (kc k).size = 37 := k.l_length
theorem ac_get (a : Adr) (i : Nat) : (ac a)[i]? = a.l[i]? := by simp [ac]
theorem get_of {x : Array Value} {i : Nat} {v : Value} (h : x[i]? = some v) (hi : i < x.size) : x[i] = v := by
  rw [Array.getElem?_eq_getElem hi] at h; exact Option.some.inj h
theorem ac_0? (a : Adr) : (ac a)[0]? = some (.bool a.v6) := by simp [ac, Adr.l]
@[go_sem] theorem ac_0 (a : Adr) (h : 0 < (ac a).size) : (ac a)[0] = .bool a.v6 := get_of (ac_0? a) h
theorem ac_byte? (a : Adr) (i : Nat) (h : i < 16) : (ac a)[1 + i]? = some (.int .u8 (a.b.getD i 0 : Nat)) := by
  have := a.len
  rw [ac_get, Adr.l, Nat.add_comm, List.getElem?_cons_succ, u8s, List.getElem?_map, List.getElem?_eq_getElem (by omega), List.getD_eq_getElem?_getD, List.getElem?_eq_getElem (by omega)]
  rfl
theorem kl_get (k : Ky) (j : Nat) : (kc k)[j]? = k.l[j]? := by simp [kc]
theorem kl_src (k : Ky) (j : Nat) (h : j < 17) : (kc k)[j + 1]? = k.src.l[j]? := by
  have := k.src.l_length
  rw [kl_get, Ky.l, List.getElem?_cons_succ, List.getElem?_append_left (by omega)]
theorem kl_dst (k : Ky) (j : Nat) (h : j < 17) : (kc k)[j + 17 + 1]? = k.dst.l[j]? := by
  have := k.src.l_length; have := k.dst.l_length
  rw [kl_get, Ky.l, List.getElem?_cons_succ, List.getElem?_append_right (by omega), List.getElem?_append_left (by omega)]
  congr 1; omega
theorem kl_end (k : Ky) (j : Nat) : (kc k)[j + 34 + 1]? = [Value.int .u16 k.sp, .int .u16 k.dp][j]? := by
  have := k.src.l_length; have := k.dst.l_length
  rw [kl_get, Ky.l, List.getElem?_cons_succ, List.getElem?_append_right (by omega), List.getElem?_append_right (by omega)]
  congr 1; omega
theorem kc_0? (k : Ky) : (kc k)[0]? = some (.int .u8 k.proto) := by simp [kc, Ky.l]
theorem kc_1? (k : Ky) : (kc k)[1]? = some (.bool k.src.v6) := by rw [kl_src k 0 (by omega)]; rfl
theorem kc_18? (k : Ky) : (kc k)[18]? = some (.bool k.dst.v6) := by rw [kl_dst k 0 (by omega)]; rfl
theorem kc_35? (k : Ky) : (kc k)[35]? = some (.int .u16 k.sp) := by rw [kl_end k 0]; rfl
theorem kc_36? (k : Ky) : (kc k)[36]? = some (.int .u16 k.dp) := by rw [kl_end k 1]; rfl
@[go_sem] theorem kc_0 (k : Ky) (h : 0 < (kc k).size) : (kc k)[0] = .int .u8 k.proto := get_of (kc_0? k) h
@[go_sem] theorem kc_1 (k : Ky) (h : 1 < (kc k).size) : (kc k)[1] = .bool k.src.v6 := get_of (kc_1? k) h
@[go_sem] theorem kc_18 (k : Ky) (h : 18 < (kc k).size) : (kc k)[18] = .bool k.dst.v6 := get_of (kc_18? k) h
@[go_sem] theorem kc_35 (k : Ky) (h : 35 < (kc k).size) : (kc k)[35] = .int .u16 k.sp := get_of (kc_35? k) h
@[go_sem] theorem kc_36 (k : Ky) (h : 36 < (kc k).size) : (kc k)[36] = .int .u16 k.dp := get_of (kc_36? k) h
theorem ext_of {x y : Array Value} {a n : Nat} (hy : y.size = n) (hx : a + n ≤ x.size) (h : ∀ j, j < n → x[j + a]? = y[j]?) : x.extract a (a + n) = y := by
  apply Array.ext_getElem?
  intro j
  rw [Array.getElem?_extract]
  by_cases hj : j < n
  · rw [if_pos (by omega), Nat.add_comm, h j hj]
  · rw [if_neg (by omega), Array.getElem?_eq_none (by omega)]
@[go_sem] theorem kc_src (k : Ky) : (kc k).extract 1 18 = ac k.src := ext_of (a := 1) (n := 17) (ac_size _) (by rw [kc_size]; omega) fun j hj => by rw [kl_src k j hj, ac_get]
@[go_sem] theorem kc_dst (k : Ky) : (kc k).extract 18 35 = ac k.dst := ext_of (a := 18) (n := 17) (ac_size _) (by rw [kc_size]; omega) fun j hj => by rw [show j + 18 = j + 17 + 1 from by omega, kl_dst k j hj, ac_get]
@[go_sem] theorem kc_all (k : Ky) : (kc k).extract 0 37 = kc k := ext_of (a := 0) (n := 37) (kc_size _) (by rw [kc_size]; omega) fun j _ => rfl
@[go_sem] theorem ac_all (a : Adr) : (ac a).extract 0 17 = ac a := ext_of (a := 0) (n := 17) (ac_size _) (by rw [ac_size]; omega) fun j _ => rfl
theorem sizeA : (Try.prog.info? 30).map (·.size) = some 17 := by kernel_rfl
theorem sizeK : (Try.prog.info? 57).map (·.size) = some 37 := by kernel_rfl
theorem size12 : (Try.prog.info? 140).map (·.size) = some 12 := by kernel_rfl
theorem loadA (x : Operand) (dst : Option Tmp) (t : TypeId) (pos : String) (after : Array Edge) (g : Option (Nat × Bool)) (f : Operand → Value) (w : World)
    (hx : plainPtr (f x) = true) (ho : open_ w (blk (f x)) = true) (hs : offOf (f x) + 17 ≤ (row w (blk (f x))).size) :
    (execOp f ⟨dst, .load 30 x, t, pos, after, g⟩).run Try.prog w = .ok (.value (.agg ((row w (blk (f x))).extract (offOf (f x)) (offOf (f x) + 17)))) w :=
  exec_load_part 30 _ 17 Try.underlying30 rfl sizeA x dst t pos after g f w hx ho hs
theorem loadK (x : Operand) (dst : Option Tmp) (t : TypeId) (pos : String) (after : Array Edge) (g : Option (Nat × Bool)) (f : Operand → Value) (w : World)
    (hx : plainPtr (f x) = true) (ho : open_ w (blk (f x)) = true) (hs : offOf (f x) + 37 ≤ (row w (blk (f x))).size) :
    (execOp f ⟨dst, .load 57 x, t, pos, after, g⟩).run Try.prog w = .ok (.value (.agg ((row w (blk (f x))).extract (offOf (f x)) (offOf (f x) + 37)))) w :=
  exec_load_part 57 _ 37 Try.underlying57 rfl sizeK x dst t pos after g f w hx ho hs
theorem load12 (x : Operand) (dst : Option Tmp) (t : TypeId) (pos : String) (after : Array Edge) (g : Option (Nat × Bool)) (f : Operand → Value) (w : World)
    (hx : plainPtr (f x) = true) (ho : open_ w (blk (f x)) = true) (hs : offOf (f x) + 12 ≤ (row w (blk (f x))).size) :
    (execOp f ⟨dst, .load 140 x, t, pos, after, g⟩).run Try.prog w = .ok (.value (.agg ((row w (blk (f x))).extract (offOf (f x)) (offOf (f x) + 12)))) w :=
  exec_load_part 140 _ 12 Try.underlying140 rfl size12 x dst t pos after g f w hx ho hs
attribute [go_sem ↓] loadA loadK load12
/-- May an address be? -/
def vld (a : Adr) : Bool := a.v6 || a.b.drop 4 == List.replicate 12 0
theorem infoU8 : ∃ i, Try.prog.info? 5 = some i := info_of_underlying Try.underlying5
theorem cellsU8 : Try.prog.cellsOf 5 = 1 := by kernel_rfl
theorem eqItems_u8 (d : Nat) (w : World) (l m : List Nat) : ∀ (is : List Nat), (∀ i ∈ is, i < l.length ∧ i < m.length) →
    (Op.eqItems (d + 1) 5 1 (u8s l).toArray (u8s m).toArray is).run Try.prog w = .ok (is.all fun i => l[i]? == m[i]?) w
  | [], _ => by simp [Op.eqItems]
  | i :: is, h => by
    obtain ⟨h1, h2⟩ := h i (by simp)
    have hp : ∀ (q : List Nat), i < q.length → (part 5 (u8s q).toArray (i * 1)).run Try.prog w = .ok (.int .u8 (q.getD i 0 : Nat)) w := fun q hq => by
      have : (u8s q).toArray[i]? = some (.int .u8 (q.getD i 0 : Nat)) := by
        simp [u8s, List.getD_eq_getElem?_getD, List.getElem?_eq_getElem hq]
      simp [part, isAgg, run_underlying Try.underlying5, this]
    have ih := eqItems_u8 d w l m is (fun j hj => h j (by simp [hj]))
    simp only [Op.eqItems, Sem.run_bind, hp l h1, hp m h2, Result.andThen_ok, run_equalIn_int (P := Try.prog) w d 5 .u8 .u8 _ _ Try.underlying5]
    have hb : (l[i]? == m[i]?) = (((l.getD i 0 : Nat) : Int) == ((m.getD i 0 : Nat) : Int)) := by
      rw [List.getD_eq_getElem?_getD, List.getD_eq_getElem?_getD, List.getElem?_eq_getElem h1, List.getElem?_eq_getElem h2]
      rw [Bool.eq_iff_iff, beq_iff_eq, beq_iff_eq]
      simp only [Option.some.injEq, Option.getD_some]
      omega
    rw [List.all_cons, hb]
    cases ((l.getD i 0 : Nat) : Int) == ((m.getD i 0 : Nat) : Int)
    · simp
    · simp [ih]
theorem all_eq (l m : List Nat) (h : l.length = m.length) : ((List.range l.length).all fun i => l[i]? == m[i]?) = (l == m) := by
  rw [Bool.eq_iff_iff, List.all_eq_true, beq_iff_eq]
  constructor
  · intro hh
    apply List.ext_getElem?
    intro i
    by_cases hi : i < l.length
    · exact beq_iff_eq.1 (hh i (List.mem_range.2 hi))
    · rw [List.getElem?_eq_none (by omega), List.getElem?_eq_none (by omega)]
  · rintro rfl i _; simp
theorem eql12 (w : World) (l m : List Nat) (hl : l.length = 12) (hm : m.length = 12) : (binOp .eql 140 (.agg (u8s l).toArray) (.agg (u8s m).toArray)).run Try.prog w = .ok (.bool (l == m)) w := by
  obtain ⟨i, hi⟩ := infoU8
  rw [run_eql_struct, show 10000 = 9998 + 1 + 1 from rfl, run_equalIn_array w _ _ _ Try.underlying140 hi, cellsU8, eqItems_u8 _ w l m _ (fun j hj => by have := List.mem_range.1 hj; omega)]
  rw [← hl, all_eq l m (by omega)]
  rfl
theorem eqlZ12 (w : World) (l : List Nat) (hl : l.length = 12) : (binOp .eql 140 (.agg (u8s l).toArray) (.agg #[.int .u8 0, .int .u8 0, .int .u8 0, .int .u8 0, .int .u8 0, .int .u8 0, .int .u8 0, .int .u8 0, .int .u8 0, .int .u8 0, .int .u8 0, .int .u8 0])).run Try.prog w = .ok (.bool (l == List.replicate 12 0)) w :=
  eql12 w l (List.replicate 12 0) hl (by simp)
theorem guard12 : Try.prog.eqGuardType Try.prog.depth 140 = false := by kernel_rfl
@[go_sem] theorem ac_tail (a : Adr) : (ac a).extract 5 17 = (u8s (a.b.drop 4)).toArray := ext_of (a := 5) (n := 12) (by simp [u8s, a.len]) (by rw [ac_size]; omega) fun j hj => by
  have := a.len
  rw [show j + 5 = 1 + (4 + j) by omega, ac_byte? a _ (by omega)]
  simp [u8s, List.getD_eq_getElem?_getD, List.getElem?_eq_getElem (show 4 + j < a.b.length by omega)]
set_option maxRecDepth 100000 in
set_option maxHeartbeats 1000000 in
theorem valid_any (a : Adr) (w : World) : Calls Try.prog 55 #[.agg (ac a)] w fun e w' => e = .returned (.bool (vld a)) ∧ w' = w.alloc (.cells (ac a) 30) := by
  have hg := guard12
  have hlen := a.len
  have heq := fun w => eqlZ12 w (a.b.drop 4) (by simp [hlen])
  have hat := fun (w : World) (g : Nat) => run_arrayAt (P := Try.prog) w 140 5 12 (some ⟨g, 5, none⟩) 12 12 Try.underlying140 (by omega)
  have HV := Lib.hid (show vld a = (a.v6 || a.b.drop 4 == List.replicate 12 0) from rfl)
  clear hlen
  generalize hd : (a.b.drop 4 == List.replicate 12 0) = z at *
  cases h : a.v6
  · go_enter Try.func55, Try.ntmps55
    go_wp2_with fail
    go_ret
    exact ⟨by rw [HV.out, h]; rfl, rfl⟩
  · go_enter Try.func55, Try.ntmps55
    go_wp2_with fail
    go_ret
    exact ⟨by rw [HV.out, h]; rfl, rfl⟩
/-- An address's bytes. -/
def abytes (a : Adr) : List Nat := if a.v6 then a.b else a.b.take 4
theorem abytes_lt (a : Adr) : ∀ c ∈ abytes a, c < 256 := by
  unfold abytes
  intro c hc
  split at hc
  · exact a.lt c hc
  · exact a.lt c (List.mem_of_mem_take hc)
theorem abytes_length (a : Adr) : (abytes a).length = if a.v6 then 16 else 4 := by
  unfold abytes
  split <;> simp [a.len]
theorem bytes_boxed (a : Adr) (w : World) (g n : Nat) (hg : g = w.heap.size) (hn : n ≤ 16) (t : TypeId) : Bytes (w.alloc (.cells (ac a) t)) (some ⟨g, 1, none⟩) n (a.b.take n) := by
  subst hg
  refine ⟨by simp [a.len]; omega, fun c hc => a.lt c (List.mem_of_mem_take hc), fun _ => ⟨w.heap.size, 1, rfl, by simp, fun i hi => ?_⟩⟩
  rw [cell_of_row _ _ _ _ _ _ (heap_alloc_new w _), ac_byte? a i (by omega)]
  simp only [List.getD_eq_getElem?_getD, List.getElem?_take, if_pos hi]
set_option maxRecDepth 100000 in
set_option maxHeartbeats 1000000 in
theorem bytes_any (a : Adr) (w : World) : Calls Try.prog 74 #[.agg (ac a)] w fun e w' => ∃ v, e = .returned v ∧ OB w' w.heap.size v (abytes a) ∧ Below w.heap.size w w' := by
  have hlen := Lib.hid a.len
  cases h : a.v6
  · have H : Hid (abytes a = a.b.take 4) := Lib.hid (by unfold abytes; rw [h]; rfl)
    go_enter Try.func74, Try.ntmps74
    go_wp2_with fail
    refine (clone_any _ 4 _ _ _ (bytes_boxed a w _ 4 rfl (by omega) _) (by omega)).mono ?_
    rintro e w1 ⟨v, rfl, ho, hb⟩
    go_wp2_with fail
    go_ret
    exact ⟨_, rfl, by rw [H.out]; exact ho.base (by simp), step_below ((Below.refl _ _).alloc (Nat.le_refl _) _) hb⟩
  · have H : Hid (abytes a = a.b.take 16) := Lib.hid (by unfold abytes; rw [h, if_pos rfl, List.take_of_length_le (i := 16) (l := a.b) (Nat.le_of_eq a.len)])
    go_enter Try.func74, Try.ntmps74
    go_wp2_with fail
    refine (clone_any _ 16 _ _ _ (bytes_boxed a w _ 16 rfl (by omega) _) (by omega)).mono ?_
    rintro e w1 ⟨v, rfl, ho, hb⟩
    go_wp2_with fail
    go_ret
    exact ⟨_, rfl, by rw [H.out]; exact ho.base (by simp), step_below ((Below.refl _ _).alloc (Nat.le_refl _) _) hb⟩
/-- May a flow be? -/
def kvld (k : Ky) : Bool := (k.proto == 6 || k.proto == 17) && vld k.src && vld k.dst && k.src.v6 == k.dst.v6
set_option maxRecDepth 100000 in
set_option maxHeartbeats 4000000 in
theorem kvalid_any (k : Ky) (w : World) : Calls Try.prog 69 #[.agg (kc k)] w fun e w' => e = .returned (.bool (kvld k)) ∧ Below w.heap.size w w' := by
  have HK := Lib.hid (show kvld k = ((k.proto == 6 || k.proto == 17) && vld k.src && vld k.dst && k.src.v6 == k.dst.v6) from rfl)
  have hc : (((k.proto : Int) == 6) = true ∧ (k.proto == 6 || k.proto == 17) = true) ∨ (((k.proto : Int) == 6) = false ∧ ((k.proto : Int) == 17) = true ∧ (k.proto == 6 || k.proto == 17) = true) ∨
      (((k.proto : Int) == 6) = false ∧ ((k.proto : Int) == 17) = false ∧ (k.proto == 6 || k.proto == 17) = false) := by
    simp only [beq_iff_eq, beq_eq_false_iff_ne, Bool.or_eq_true, Bool.or_eq_false_iff, ne_eq]
    omega
  rcases hc with ⟨h1, hp⟩ | ⟨h1, h2, hp⟩ | ⟨h1, h2, hp⟩
  case inr.inr =>
    rw [hp] at HK
    clear hp
    go_enter Try.func69, Try.ntmps69
    go_wp2_with fail
    go_ret
    exact ⟨by rw [HK.out]; rfl, (Below.refl _ w).alloc (Nat.le_refl _) _⟩
  all_goals
    rw [hp] at HK
    clear hp
    cases hs : vld k.src
    · rw [hs] at HK
      go_enter Try.func69, Try.ntmps69
      go_wp2_with fail
      refine (valid_any k.src _).mono ?_
      rintro e w1 ⟨rfl, rfl⟩
      rw [hs]
      go_wp2_with fail
      go_ret
      exact ⟨by rw [HK.out]; rfl, ((Below.refl _ w).alloc (Nat.le_refl _) _).alloc (by simp) _⟩
    · rw [hs] at HK
      have HD := Lib.hid (show vld k.dst = vld k.dst from rfl)
      generalize hd : vld k.dst = z at *
      go_enter Try.func69, Try.ntmps69
      go_wp2_with fail
      refine (valid_any k.src _).mono ?_
      rintro e w1 ⟨rfl, rfl⟩
      rw [hs]
      go_wp2_with fail
      refine (valid_any k.dst _).mono ?_
      rintro e w1 ⟨rfl, rfl⟩
      rw [hd]
      cases z <;>
      · go_wp2_with fail
        go_ret
        exact ⟨by rw [HK.out]; rfl, (((Below.refl _ w).alloc (Nat.le_refl _) _).alloc (by simp) _).alloc (by simp; omega) _⟩
end Go.Proofs.Ytgjecemmejaieaa
