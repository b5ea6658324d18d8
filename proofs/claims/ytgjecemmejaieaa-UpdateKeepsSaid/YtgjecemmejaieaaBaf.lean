/-
  Texts in one, each behind those that it needs: FamHash, FamHashB, FamPlace, FamPlaceB, FamBits, FamCheck.
-/
import Derived.Test.YtgjecemmejaieaaBae
/-
  Configurations: their cells; a family in memory; the hash of a flow, and the document's.
-/
namespace Go.Proofs.Ytgjecemmejaieaa
open Go.RowKit
structure Cf where
  stages : Int
  size : Int
  digest : Int
  bloom : Int
  hashes : Int
  slots : Int
  versions : Int
  queue : Int
  evict : Int
  idle : Int
  linger : Int
  fails : Int
  encap : Bool
  own : Adr
  own6 : Adr
  seed : Nat
  hseed : seed < 4294967296
def Cf.head (c : Cf) : List Value := [.int .i64 c.stages, .int .i64 c.size, .int .i64 c.digest, .int .i64 c.bloom, .int .i64 c.hashes, .int .i64 c.slots, .int .i64 c.versions, .int .i64 c.queue, .int .i64 c.evict, .int .i64 c.idle, .int .i64 c.linger, .int .i64 c.fails, .bool c.encap]
def Cf.l (c : Cf) : List Value := c.head ++ (c.own.l ++ (c.own6.l ++ [.int .u32 c.seed]))
def cc (c : Cf) : Array Value := c.l.toArray
theorem Cf.l_length (c : Cf) : c.l.length = 48 := by simp [Cf.l, Cf.head, Adr.l_length]
@[go_sem] theorem cc_size (c : Cf) : (cc c).size = 48 := c.l_length
theorem cl_get (c : Cf) (j : Nat) : (cc c)[j]? = c.l[j]? := by simp [cc]
theorem cl_head (c : Cf) (j : Nat) (h : j < 13) : (cc c)[j]? = c.head[j]? := by
  rw [cl_get, Cf.l, List.getElem?_append_left (by simpa [Cf.head] using h)]
theorem cl_own (c : Cf) (j : Nat) (h : j < 17) : (cc c)[j + 13]? = (ac c.own)[j]? := by
  have := c.own.l_length
  rw [cl_get, Cf.l, List.getElem?_append_right (by simp [Cf.head]), List.getElem?_append_left (by simp [Cf.head]; omega), ac_get]
  simp [Cf.head]
theorem cl_own6 (c : Cf) (j : Nat) (h : j < 17) : (cc c)[j + 30]? = (ac c.own6)[j]? := by
  have := c.own.l_length; have := c.own6.l_length
  rw [cl_get, Cf.l, List.getElem?_append_right (by simp [Cf.head]), List.getElem?_append_right (by simp [Cf.head]; omega), List.getElem?_append_left (by simp [Cf.head]; omega), ac_get]
  congr 1; simp [Cf.head]; omega
theorem cl_seed (c : Cf) : (cc c)[47]? = some (.int .u32 c.seed) := by
  have := c.own.l_length; have := c.own6.l_length
  rw [cl_get, Cf.l, List.getElem?_append_right (by simp [Cf.head]), List.getElem?_append_right (by simp [Cf.head]; omega), List.getElem?_append_right (by simp [Cf.head]; omega)]
  have e : 47 - c.head.length - c.own.l.length - c.own6.l.length = 0 := by simp [Cf.head]; omega
  rw [e]; rfl
theorem cc_13? (c : Cf) : (cc c)[13]? = some (.bool c.own.v6) := by rw [cl_own c 0 (by omega)]; exact ac_0? _
theorem cc_30? (c : Cf) : (cc c)[30]? = some (.bool c.own6.v6) := by rw [cl_own6 c 0 (by omega)]; exact ac_0? _
@[go_sem] theorem cc_0 (c : Cf) (h : 0 < (cc c).size) : (cc c)[0] = .int .i64 c.stages := get_of (cl_head c 0 (by omega)) h
@[go_sem] theorem cc_1 (c : Cf) (h : 1 < (cc c).size) : (cc c)[1] = .int .i64 c.size := get_of (cl_head c 1 (by omega)) h
@[go_sem] theorem cc_2 (c : Cf) (h : 2 < (cc c).size) : (cc c)[2] = .int .i64 c.digest := get_of (cl_head c 2 (by omega)) h
@[go_sem] theorem cc_3 (c : Cf) (h : 3 < (cc c).size) : (cc c)[3] = .int .i64 c.bloom := get_of (cl_head c 3 (by omega)) h
@[go_sem] theorem cc_4 (c : Cf) (h : 4 < (cc c).size) : (cc c)[4] = .int .i64 c.hashes := get_of (cl_head c 4 (by omega)) h
@[go_sem] theorem cc_5 (c : Cf) (h : 5 < (cc c).size) : (cc c)[5] = .int .i64 c.slots := get_of (cl_head c 5 (by omega)) h
@[go_sem] theorem cc_6 (c : Cf) (h : 6 < (cc c).size) : (cc c)[6] = .int .i64 c.versions := get_of (cl_head c 6 (by omega)) h
@[go_sem] theorem cc_7 (c : Cf) (h : 7 < (cc c).size) : (cc c)[7] = .int .i64 c.queue := get_of (cl_head c 7 (by omega)) h
@[go_sem] theorem cc_8 (c : Cf) (h : 8 < (cc c).size) : (cc c)[8] = .int .i64 c.evict := get_of (cl_head c 8 (by omega)) h
@[go_sem] theorem cc_9 (c : Cf) (h : 9 < (cc c).size) : (cc c)[9] = .int .i64 c.idle := get_of (cl_head c 9 (by omega)) h
@[go_sem] theorem cc_10 (c : Cf) (h : 10 < (cc c).size) : (cc c)[10] = .int .i64 c.linger := get_of (cl_head c 10 (by omega)) h
@[go_sem] theorem cc_11 (c : Cf) (h : 11 < (cc c).size) : (cc c)[11] = .int .i64 c.fails := get_of (cl_head c 11 (by omega)) h
@[go_sem] theorem cc_12 (c : Cf) (h : 12 < (cc c).size) : (cc c)[12] = .bool c.encap := get_of (cl_head c 12 (by omega)) h
@[go_sem] theorem cc_13 (c : Cf) (h : 13 < (cc c).size) : (cc c)[13] = .bool c.own.v6 := get_of (cc_13? c) h
@[go_sem] theorem cc_30 (c : Cf) (h : 30 < (cc c).size) : (cc c)[30] = .bool c.own6.v6 := get_of (cc_30? c) h
@[go_sem] theorem cc_47 (c : Cf) (h : 47 < (cc c).size) : (cc c)[47] = .int .u32 c.seed := get_of (cl_seed c) h
@[go_sem] theorem cc_own (c : Cf) : (cc c).extract 13 30 = ac c.own := ext_of (a := 13) (n := 17) (ac_size _) (by rw [cc_size]; omega) fun j hj => cl_own c j hj
@[go_sem] theorem cc_own6 (c : Cf) : (cc c).extract 30 47 = ac c.own6 := ext_of (a := 30) (n := 17) (ac_size _) (by rw [cc_size]; omega) fun j hj => cl_own6 c j hj
@[go_sem] theorem cc_all (c : Cf) : (cc c).extract 0 48 = cc c := ext_of (a := 0) (n := 48) (cc_size _) (by rw [cc_size]; omega) fun j _ => rfl
theorem sizeC : (Try.prog.info? 33).map (·.size) = some 48 := by kernel_rfl
theorem loadC (x : Operand) (dst : Option Tmp) (t : TypeId) (pos : String) (after : Array Edge) (g : Option (Nat × Bool)) (f : Operand → Value) (w : World)
    (hx : plainPtr (f x) = true) (ho : open_ w (blk (f x)) = true) (hs : offOf (f x) + 48 ≤ (row w (blk (f x))).size) :
    (execOp f ⟨dst, .load 33 x, t, pos, after, g⟩).run Try.prog w = .ok (.value (.agg ((row w (blk (f x))).extract (offOf (f x)) (offOf (f x) + 48)))) w :=
  exec_load_part 33 _ 48 Try.underlying33 rfl sizeC x dst t pos after g f w hx ho hs
theorem loadT (x : Operand) (dst : Option Tmp) (t : TypeId) (pos : String) (after : Array Edge) (g : Option (Nat × Bool)) (f : Operand → Value) (w : World)
    (hx : plainPtr (f x) = true) (ho : open_ w (blk (f x)) = true) (hs : offOf (f x) + 256 ≤ (row w (blk (f x))).size) :
    (execOp f ⟨dst, .load 97 x, t, pos, after, g⟩).run Try.prog w = .ok (.value (.agg ((row w (blk (f x))).extract (offOf (f x)) (offOf (f x) + 256)))) w :=
  exec_load_part 97 _ 256 Try.underlying97 rfl size26 x dst t pos after g f w hx ho hs
attribute [go_sem ↓] loadC loadT
/-- A family's cells. -/
def fc (c : Cf) : Array Value := cc c ++ tabv (poly 0) ++ tabv (poly 1) ++ tabv (poly 2) ++ tabv (poly 3)
theorem tabv_size (p : Nat) : (tabv p).size = 256 := tabk_size p 256
@[go_sem] theorem fc_size (c : Cf) : (fc c).size = 1072 := by simp [fc, cc_size, tabv_size]
theorem fc_get (c : Cf) (j : Nat) (h : j < 48) : (fc c)[j]? = (cc c)[j]? := by
  unfold fc
  rw [Array.getElem?_append_left (by simp [cc_size, tabv_size]; omega), Array.getElem?_append_left (by simp [cc_size, tabv_size]; omega), Array.getElem?_append_left (by simp [cc_size, tabv_size]; omega), Array.getElem?_append_left (by simp [cc_size]; omega)]
@[go_sem] theorem fc_t0 (c : Cf) : (fc c).extract 48 304 = tabv (poly 0) := ext_of (a := 48) (n := 256) (tabv_size _) (by rw [fc_size]; omega) fun j hj => by
  unfold fc
  rw [Array.getElem?_append_left (by simp [cc_size, tabv_size]; omega), Array.getElem?_append_left (by simp [cc_size, tabv_size]; omega), Array.getElem?_append_left (by simp [cc_size, tabv_size]; omega), Array.getElem?_append_right (by simp [cc_size])]
  congr 1; simp [cc_size]
@[go_sem] theorem fc_t1 (c : Cf) : (fc c).extract 304 560 = tabv (poly 1) := ext_of (a := 304) (n := 256) (tabv_size _) (by rw [fc_size]; omega) fun j hj => by
  unfold fc
  rw [Array.getElem?_append_left (by simp [cc_size, tabv_size]; omega), Array.getElem?_append_left (by simp [cc_size, tabv_size]; omega), Array.getElem?_append_right (by simp [cc_size, tabv_size])]
  rw [show j + 304 - (cc c ++ tabv (poly 0)).size = j by simp [cc_size, tabv_size]]
@[go_sem] theorem fc_t2 (c : Cf) : (fc c).extract 560 816 = tabv (poly 2) := ext_of (a := 560) (n := 256) (tabv_size _) (by rw [fc_size]; omega) fun j hj => by
  unfold fc
  rw [Array.getElem?_append_left (by simp [cc_size, tabv_size]; omega), Array.getElem?_append_right (by simp [cc_size, tabv_size])]
  rw [show j + 560 - (cc c ++ tabv (poly 0) ++ tabv (poly 1)).size = j by simp [cc_size, tabv_size]]
@[go_sem] theorem fc_t3 (c : Cf) : (fc c).extract 816 1072 = tabv (poly 3) := ext_of (a := 816) (n := 256) (tabv_size _) (by rw [fc_size]; omega) fun j hj => by
  unfold fc
  rw [Array.getElem?_append_right (by simp [cc_size, tabv_size])]
  rw [show j + 816 - (cc c ++ tabv (poly 0) ++ tabv (poly 1) ++ tabv (poly 2)).size = j by simp [cc_size, tabv_size]]
theorem of_int (p : Nat) (hp : p < 4294967296) (s : Int) (h0 : 0 ≤ s) (hs : s < 4294967296) (a : Option Addr) (n c : Nat) (l : List Nat) (w : World) (hb : Bytes w a n l) (hn : n ≤ 1000000) :
    Calls Try.prog 71 #[.agg (tabv p), .int .u32 s, .slice a n c] w fun e w' => e = .returned (.int .u32 (crc p s.toNat l : Nat)) ∧ w' = w.alloc (.cells (tabv p) 97) := by
  obtain ⟨s, rfl⟩ := Int.eq_ofNat_of_zero_le h0
  exact of_any p hp s (by omega) a n c l w hb hn
/-- A flow's n-th hash. -/
def hsh (s n : Nat) (l : List Nat) : Nat := mixN (crc (poly (n % 4)) ((s + 7919 * n) % 4294967296) l)
theorem hsh_lt (s n : Nat) (l : List Nat) : hsh s n l < 4294967296 := mixN_lt _
theorem kbytes_length (k : Ky) : (kbytes k).length ≤ 40 := by
  unfold kbytes
  split
  · simp [abytes_length]; split <;> split <;> omega
  · simp
theorem kbytes_lt (k : Ky) : ∀ c ∈ kbytes k, c < 256 := by
  intro c hc
  have h1 := k.hp; have h2 := k.hs; have h3 := k.hd; have h4 := kind_lt k; have h5 := abytes_lt k.src; have h6 := abytes_lt k.dst
  unfold kbytes at hc
  split at hc
  · simp only [List.mem_append, List.mem_cons, List.not_mem_nil, or_false] at hc
    rcases hc with ((((h | h) | h) | h) | h | h) | h | h
    · omega
    · omega
    · exact h5 c h
    · exact h6 c h
    all_goals omega
  · cases hc
end Go.Proofs.Ytgjecemmejaieaa

/-
  A family's hash of a flow, and the document's.
-/
namespace Go.Proofs.Ytgjecemmejaieaa
open Go.RowKit
theorem hsum (s n : Nat) : (((s : Int) + 7919 * (n : Int)) % 4294967296).toNat = (s + 7919 * n) % 4294967296 := by omega
set_option maxRecDepth 100000 in
set_option maxHeartbeats 4000000 in
theorem hash_any (gf : Nat) (c : Cf) (k : Ky) (n : Nat) (hn : n ≤ 100) (w : World) (h : At w gf 100 (fc c)) :
    Calls Try.prog 68 #[.pointer (some ⟨gf, 0, none⟩), .agg (kc k), .int .i64 n] w fun e w' => e = .returned (.int .i64 (hsh c.seed n (kbytes k) : Nat)) ∧ Below w.heap.size w w' := by
  have hl := h.lt
  have hl' : gf < w.heap.size + 1 := by omega
  have hr := h.row
  have ho := h.open
  have h47 := h.cell 47
  rw [fc_get c 47 (by omega), cl_seed] at h47
  have hseed := c.hseed
  have HSUM := Lib.hid (hsum c.seed n)
  have HP := Lib.hid (poly_lt (n % 4))
  have HKL := Lib.hid (kbytes_length k)
  have HKB := Lib.hid (kbytes_lt k)
  have hc : ((n : Int).tmod 4 = 0 ∧ n % 4 = 0) ∨ ((n : Int).tmod 4 = 1 ∧ n % 4 = 1) ∨ ((n : Int).tmod 4 = 2 ∧ n % 4 = 2) ∨ ((n : Int).tmod 4 = 3 ∧ n % 4 = 3) := by
    rw [Int.tmod_eq_emod_of_nonneg (Int.natCast_nonneg n)]; omega
  have HH := Lib.hid (show hsh c.seed n (kbytes k) = mixN (crc (poly (n % 4)) ((c.seed + 7919 * n) % 4294967296) (kbytes k)) from rfl)
  clear h
  rcases hc with ⟨hq, hq2⟩ | ⟨hq, hq2⟩ | ⟨hq, hq2⟩ | ⟨hq, hq2⟩ <;>
  · rw [hq2] at HH HP
    clear hq2
    have w1 : IntKind.u32.wrap (7919 * (n : Int)) = 7919 * (n : Int) := by rw [IntKind.wrap_u32]; omega
    have w2 : IntKind.u32.wrap ((c.seed : Int) + 7919 * (n : Int)) = ((c.seed : Int) + 7919 * (n : Int)) % 4294967296 := IntKind.wrap_u32 _
    have w3 : IntKind.u32.wrap (n : Int) = (n : Int) := by rw [IntKind.wrap_u32]; omega
    go_enter Try.func68, Try.ntmps68
    go_wp2_with fail
    refine region_sq (fun _ => False) [(0, true), (1, true), (2, true), (3, true), (4, true), (5, true), (6, true), (7, true), (8, true), (9, true), (10, true), (11, true), (12, true), (13, true), (14, true), (15, true), (16, true), (17, false), (18, false), (19, false), (20, true), (21, true)] (by kernel_rfl) (by kernel_rfl) (fun _ _ d _ _ h => by cases d <;> exact h) ?_
    repeat (first
      | (refine sq_yes rfl (by rfl) (fun w' hM => by ((try replace hM := hM.of_drew); obtain ⟨hR1, hR2, hR3⟩ := hM.rules; clear hM; go_simp; with_reducible rfl)) ?_; simp only [Act.put, List.setIfInBounds_toArray, List.set_cons_zero, List.set_cons_succ])
      | (refine sq_no rfl (by rfl) ?_; simp only [Act.put, List.setIfInBounds_toArray, List.set_cons_zero, List.set_cons_succ]))
    clear w1 w2 w3 hr ho h47
    refine sq_do_yes rfl (by rfl) (fun K hK => ?_)
    go_wp2_with fail
    refine (kbytes_any k _).mono ?_
    rintro e w1 ⟨v, rfl, ho1, hb1⟩
    obtain ⟨a1, n1, c1, rfl, hn1, hy1, _⟩ := ho1.parts
    have HY1 := Lib.hid hy1
    have hn1' : n1 ≤ 40 := by rw [hn1]; exact HKL.out
    have HB1 := Lib.hid (step_below (((Below.refl _ w).alloc (Nat.le_refl _) _).drew) hb1)
    clear ho1 hy1 hn1
    go_wp2_with fail
    refine ⟨Mod.of_below hb1, ?_⟩
    clear hb1
    refine sq_do_yes rfl (by rfl) (fun K hK => ?_)
    go_wp2_with fail
    refine (of_int _ HP.out _ (Int.emod_nonneg _ (by omega)) (Int.emod_lt_of_pos _ (by omega)) a1 n1 c1 _ _ HY1.out (by omega)).mono ?_
    rintro e w2 ⟨rfl, rfl⟩
    rw [HSUM.out]
    have hcl := crc_lt HP.out (Nat.mod_lt (c.seed + 7919 * n) (show 4294967296 > 0 by omega)) HKB.out
    generalize hm : crc _ ((c.seed + 7919 * n) % 4294967296) (kbytes k) = m at hcl ⊢
    have HH2 := Lib.hid (show hsh c.seed n (kbytes k) = mixN m by rw [HH.out, hm])
    clear hm
    go_wp2_with fail
    refine ⟨(Mod.refl _ _).alloc _, ?_⟩
    refine sq_do_yes rfl (by rfl) (fun K hK => ?_)
    go_wp2_with fail
    refine (mix_any m hcl _).mono ?_
    rintro e w3 ⟨rfl, rfl⟩
    go_wp2_with fail
    refine ⟨Mod.refl _ _, ?_⟩
    have hml := mixN_lt m
    have w4 : IntKind.i64.wrap ((mixN m : Nat) : Int) = ((mixN m : Nat) : Int) := by rw [IntKind.wrap_i64]; omega
    repeat (first
      | (refine sq_yes rfl (by rfl) (fun w' hM => by ((try replace hM := hM.of_drew); obtain ⟨hR1, hR2, hR3⟩ := hM.rules; clear hM; go_simp; with_reducible rfl)) ?_; simp only [Act.put, List.setIfInBounds_toArray, List.set_cons_zero, List.set_cons_succ])
      | (refine sq_no rfl (by rfl) ?_; simp only [Act.put, List.setIfInBounds_toArray, List.set_cons_zero, List.set_cons_succ]))
    refine sq_end ?_
    clear w4
    go_wp2_with fail
    go_ret
    exact ⟨by rw [HH2.out]; rfl, HB1.out.alloc HB1.out.size _⟩
end Go.Proofs.Ytgjecemmejaieaa

/-
  A family's Place, Digest, Slot of a flow.
-/
namespace Go.Proofs.Ytgjecemmejaieaa
open Go.RowKit
set_option maxRecDepth 100000 in
set_option maxHeartbeats 1000000 in
theorem may_any (gf : Nat) (k : Ky) (w : World) :
    Calls Try.prog 67 #[.pointer (some ⟨gf, 0, none⟩), .agg (kc k)] w fun e w' => e = .returned (.bool (kvld k)) ∧ Below w.heap.size w w' := by
  go_enter Try.func67, Try.ntmps67
  go_wp2_with fail
  refine (kvalid_any k _).mono ?_
  rintro e w1 ⟨rfl, hb⟩
  go_wp2_with fail
  go_ret
  exact ⟨rfl, step_below ((Below.refl _ w).alloc (Nat.le_refl _) _) hb⟩
set_option maxRecDepth 100000 in
set_option maxHeartbeats 1000000 in
theorem may_nil (k : Ky) (w : World) :
    Calls Try.prog 67 #[.pointer none, .agg (kc k)] w fun e w' => e = .returned (.bool false) ∧ Below w.heap.size w w' := by
  go_enter Try.func67, Try.ntmps67
  go_wp2_with fail
  go_ret
  exact ⟨rfl, (Below.refl _ w).alloc (Nat.le_refl _) _⟩
/-- A flow's slot, of n. -/
def slotOf (c : Cf) (k : Ky) (n : Int) : Int := if kvld k = true ∧ 1 ≤ n then (hsh c.seed 32 (kbytes k) : Int) % n else 0
theorem slotOf_no (c : Cf) (k : Ky) (n : Int) (h : kvld k = false ∨ ¬ 1 ≤ n) : slotOf c k n = 0 := by
  unfold slotOf
  rw [if_neg]
  rintro ⟨h1, h2⟩
  rcases h with h | h
  · rw [h1] at h; cases h
  · exact h h2
theorem slotOf_yes (c : Cf) (k : Ky) (n : Int) (h1 : kvld k = true) (h2 : 1 ≤ n) : slotOf c k n = (hsh c.seed 32 (kbytes k) : Int) % n := by
  unfold slotOf; rw [if_pos ⟨h1, h2⟩]
/-- A flow's digest. -/
def digOf (c : Cf) (k : Ky) : Nat := if kvld k = true then hsh c.seed 8 (kbytes k) % 2 ^ c.digest.toNat else 0
theorem digOf_no (c : Cf) (k : Ky) (h : kvld k = false) : digOf c k = 0 := by unfold digOf; rw [h]; rfl
theorem digOf_yes (c : Cf) (k : Ky) (h : kvld k = true) : digOf c k = hsh c.seed 8 (kbytes k) % 2 ^ c.digest.toNat := by unfold digOf; rw [h, if_pos rfl]
theorem i64_and_nat (a b : Nat) (ha : a < 9223372036854775808) (hb : b < 9223372036854775808) : bits .and .i64 (a : Int) (b : Int) = ((a &&& b : Nat) : Int) := by
  have hx : a &&& b < 2 ^ 63 := Nat.and_lt_two_pow _ (by omega)
  have h1 : ∀ q : Nat, q < 9223372036854775808 → (BitVec.ofInt 64 (q : Int)).toNat = q := fun q hq => by
    rw [BitVec.ofInt_natCast, BitVec.toNat_ofNat]; exact Nat.mod_eq_of_lt (by omega)
  show IntKind.i64.wrap ((BitVec.ofInt 64 (a : Int) &&& BitVec.ofInt 64 (b : Int)).toNat : Int) = _
  rw [BitVec.toNat_and, h1 a ha, h1 b hb, IntKind.wrap_i64]
  omega
theorem digest_facts (d D m : Nat) (hD : D = 2 ^ d) (h1 : 1 ≤ d) (h2 : d ≤ 16) (hm : m < 4294967296) :
    IntKind.i64.wrap ((2 : Int) ^ d) = (D : Int) ∧ IntKind.i64.wrap ((D : Int) - 1) = ((D - 1 : Nat) : Int) ∧ bits .and .i64 (m : Int) ((D - 1 : Nat) : Int) = ((m % D : Nat) : Int) ∧ IntKind.u16.wrap ((m : Int) % (D : Int)) = ((m % D : Nat) : Int) ∧ m % D < 65536 := by
  have hb : 2 ≤ D ∧ D ≤ 65536 := by
    rw [hD]
    exact ⟨Nat.pow_le_pow_right (n := 2) (by omega) h1, Nat.pow_le_pow_right (n := 2) (by omega) h2⟩
  have hp : ((2 : Int) ^ d) = (D : Int) := by rw [hD]; simp
  have hlt := Nat.mod_lt m (show D > 0 by omega)
  refine ⟨by rw [hp, IntKind.wrap_i64]; omega, by rw [IntKind.wrap_i64]; omega, ?_, by rw [← Int.natCast_emod, IntKind.wrap_u16]; omega, by omega⟩
  rw [i64_and_nat m (D - 1) (by omega) (by omega), hD, Nat.and_two_pow_sub_one_eq_mod]
end Go.Proofs.Ytgjecemmejaieaa

/-
  A family's Place of a flow; the document's PlaceOf, Digest, Slot.
-/
namespace Go.Proofs.Ytgjecemmejaieaa
open Go.RowKit
theorem i64_bounds {n : Int} (h : (Lit.int .i64 n).wf = true) : -9223372036854775808 ≤ n ∧ n ≤ 9223372036854775807 := by
  simp [Lit.wf, IntKind.min, IntKind.max, IntKind.signed, IntKind.bits] at h
  omega
/-- A place's index. -/
def idx (c : Cf) (k : Ky) (s : Nat) : Int := (hsh c.seed s (kbytes k) : Int) % c.size
def placeOf (c : Cf) (k : Ky) (s : Int) : Value := if kvld k = true ∧ 0 ≤ s ∧ s < c.stages then .tuple #[.agg #[.int .i64 s, .int .i64 (idx c k s.toNat)], .bool true] else .tuple #[.agg #[.int .i64 0, .int .i64 0], .bool false]
theorem placeOf_yes (c : Cf) (k : Ky) (s : Nat) (h1 : kvld k = true) (h3 : (s : Int) < c.stages) : placeOf c k s = .tuple #[.agg #[.int .i64 s, .int .i64 (idx c k s)], .bool true] := by
  unfold placeOf; rw [if_pos ⟨h1, Int.natCast_nonneg _, h3⟩, Int.toNat_natCast]
theorem placeOf_no (c : Cf) (k : Ky) (s : Int) (h : kvld k = false ∨ s < 0 ∨ c.stages ≤ s) : placeOf c k s = .tuple #[.agg #[.int .i64 0, .int .i64 0], .bool false] := by
  unfold placeOf
  rw [if_neg]
  rintro ⟨h1, h2, h3⟩
  rcases h with h | h | h
  · rw [h1] at h; cases h
  · omega
  · omega
theorem refDigest_facts (d D m : Nat) (hD : D = 2 ^ d) (h1 : 1 ≤ d) (h2 : d ≤ 16) (hm : m < 4294967296) :
    IntKind.u32.wrap ((2 : Int) ^ d) = (D : Int) ∧ IntKind.u32.wrap ((D : Int) - 1) = ((D - 1 : Nat) : Int) ∧ bits .and .u32 (m : Int) ((D - 1 : Nat) : Int) = ((m % D : Nat) : Int) ∧ IntKind.u16.wrap ((m : Int) % (D : Int)) = ((m % D : Nat) : Int) ∧ m % D < 65536 := by
  have hb : 2 ≤ D ∧ D ≤ 65536 := by
    rw [hD]
    exact ⟨Nat.pow_le_pow_right (n := 2) (by omega) h1, Nat.pow_le_pow_right (n := 2) (by omega) h2⟩
  have hp : ((2 : Int) ^ d) = (D : Int) := by rw [hD]; simp
  have hlt := Nat.mod_lt m (show D > 0 by omega)
  refine ⟨by rw [hp, IntKind.wrap_u32]; omega, by rw [IntKind.wrap_u32]; omega, ?_, by rw [← Int.natCast_emod, IntKind.wrap_u16]; omega, by omega⟩
  rw [u32_and_nat m (D - 1) (by omega) (by omega), hD, Nat.and_two_pow_sub_one_eq_mod]
end Go.Proofs.Ytgjecemmejaieaa

/-
  Slices of integers of the call's own; a family's Bits of a flow, and the document's.
-/
namespace Go.Proofs.Ytgjecemmejaieaa
open Go.RowKit
def i64s (l : List Int) : List Value := l.map (.int .i64)
theorem i64s_append (a b : List Int) : i64s (a ++ b) = i64s a ++ i64s b := by simp [i64s]
theorem i64s_one (l : List Int) : ∀ u ∈ i64s l, u.oneCell' = true := by
  intro u hu
  obtain ⟨c, _, rfl⟩ := List.mem_map.1 hu
  rfl
/-- A slice of integers of the call's own. -/
def OI (w : World) (base : Nat) (v : Value) (l : List Int) : Prop := w.ownsRow base 3 1 v l.length (i64s l)
theorem OI.nil (w : World) (base : Nat) : OI w base (.slice none 0 0) [] := ⟨rfl, .inl ⟨rfl, rfl⟩⟩
theorem OI.below {w w' : World} {base : Nat} {v : Value} {l : List Int} (h : OI w base v l) (hb : Below w.heap.size w w') : OI w' base v l := by
  refine ⟨h.1, ?_⟩
  rcases h.2 with h1 | ⟨g, cap, cur, h1, h2, h3, h4⟩
  · exact .inl h1
  · exact .inr ⟨g, cap, cur, h1, h2, (hb.block g (Array.getElem?_eq_some_iff.1 h3).1).trans h3, h4⟩
theorem OI.base {w : World} {b b' : Nat} {v : Value} {l : List Int} (h : OI w b v l) (hb : b' ≤ b) : OI w b' v l := by
  refine ⟨h.1, ?_⟩
  rcases h.2 with h1 | ⟨g, cap, cur, h1, h2, h3⟩
  · exact .inl h1
  · exact .inr ⟨g, cap, cur, h1, Nat.le_trans hb h2, h3⟩
/-- What a slice of integers shows: nil, or its cells. -/
def Ints (w : World) (a : Option Addr) (n : Nat) (l : List Int) : Prop :=
  l.length = n ∧ (0 < n → ∃ b o, a = some ⟨b, o, none⟩ ∧ b < w.heap.size ∧ ∀ i, i < n → w.cell? ⟨b, o + i, none⟩ = some (.int .i64 (l.getD i 0)))
theorem Ints.below {w w' : World} {a : Option Addr} {n : Nat} {l : List Int} (h : Ints w a n l) (hb : Below w.heap.size w w') : Ints w' a n l := by
  refine ⟨h.1, fun hn => ?_⟩
  obtain ⟨b, o, rfl, hlt, hc⟩ := h.2 hn
  exact ⟨b, o, rfl, Nat.lt_of_lt_of_le hlt hb.size, fun i hi => (hb.cell (p := ⟨b, o + i, none⟩) hlt).trans (hc i hi)⟩
theorem OI.parts {w : World} {base : Nat} {v : Value} {l : List Int} (h : OI w base v l) : ∃ a n c, v = .slice a n c ∧ n = l.length ∧ Ints w a n l ∧ n ≤ c := by
  obtain ⟨h1, h2⟩ := h
  rcases h2 with ⟨rfl, h0⟩ | ⟨g, cap, cur, rfl, h4, h5, h6, h7, h8, h9⟩
  · exact ⟨none, 0, 0, rfl, by omega, ⟨by omega, fun hn => by omega⟩, by omega⟩
  · refine ⟨_, l.length, cap, rfl, rfl, ⟨rfl, fun hn => ⟨g, 0, rfl, (Array.getElem?_eq_some_iff.1 h5).1, fun i hi => ?_⟩⟩, h6⟩
    rw [Nat.zero_add, cell_of_row w g i cur _ (0, 0) h5]
    have := congrArg (fun x : List Value => x[i]?) h9
    simp only [List.getElem?_take, Nat.mul_one, if_pos hi, i64s, List.getElem?_map] at this
    rw [← Array.getElem?_toList, this, List.getElem?_eq_getElem hi, List.getD_eq_getElem?_getD, List.getElem?_eq_getElem hi]
    rfl
theorem OI.ge {w : World} {base k : Nat} {v : Value} {l : List Int} (h : OI w base v l) (hk : v.ownBlock = some k) : base ≤ k := by
  rcases h.2 with ⟨rfl, _⟩ | ⟨g, cap, cur, rfl, h2, _⟩
  · cases hk
  · cases hk; exact h2
theorem infoInt : (Try.prog.info? 3).map (fun i => (i.zero, i.size, i.bytes)) = some (some (.int .i64 0), 1, 8) := by kernel_rfl
/-- An append of one integer inside a region that draws: the slice that holds it was made last. -/
theorem wp_appi {o : Oper} {a : Go.Act} {K : Go.Act → World → Prop} {Q : Exit → Go.Act → World → Prop} {w : World} {s x : Operand} (base : Nat) (v : Value) (l : List Int) (y : Int) (g : Nat) (hown : OI (w.alloc (.cells #[.int .i64 y] 3)) base v l)
    (h63 : l.length + 1 ≤ 1000000) (hbase : base ≤ w.heap.size)
    (ho : o.op = .call { callee := .builtin .append, args := #[s, x], argTypes := #[22, 22] }) (_ : o.guard = none) (hs : a.eval s = v) (hx : a.eval x = .slice (some ⟨g, 0, none⟩) 1 1) (hg : g = w.heap.size)
    (h : ∀ v' w', OI w' base v' (l ++ [y]) → Below base (w.alloc (.cells #[.int .i64 y] 3)) w' → Mod (fun i => base ≤ i) (w.alloc (.cells #[.int .i64 y] 3)) w' → K (a.put o.dst v') w') : o.wp Try.prog a (w.alloc (.cells #[.int .i64 y] 3)) K Q := by
  subst hg
  obtain ⟨i0, hi, hz0, hz1, hz2⟩ := info_parts infoInt
  obtain ⟨v', w', hr', h2, h3, h4⟩ := run_app (P := Try.prog) (w.alloc (.cells #[.int .i64 y] 3)) base 22 o.type 3 i0 (.int .i64 0) 1 8 Try.underlying22 hi hz0 hz1 hz2 rfl (by decide) v l.length (i64s l) hown (some ⟨w.heap.size, 0, none⟩) 1 1 [.int .i64 y]
    ⟨rfl, fun _ => ⟨_, rfl, by simp, fun j u hu => by
      match j with
      | 0 =>
        simp at hu
        subst hu
        simp [Addr.add, World.cell?_alloc_new]
      | j + 1 => simp at hu⟩⟩ (fun u hu => by simp at hu; subst hu; rfl) (by unfold maxLen; omega) (by omega) (by simp; omega)
  unfold Oper.wp execOp
  simp only [ho, resolve, invoke, builtin, Sem.run_bind, Sem.run_pure, Result.andThen_ok, List.map_toArray, List.map_cons, List.map_nil, hs, hx, hr']
  refine h v' w' ?_ ((Below.refl base _).grown h3 (by simp; omega) (fun k hk => OI.ge hown hk)) ((Mod.refl _ _).grown h3 (fun k hk _ => OI.ge hown hk))
  show w'.ownsRow base _ 1 v' (l ++ [y]).length (i64s (l ++ [y]))
  rw [i64s_append, List.length_append]
  exact h2
/-- A flow's places in a filter. -/
def bitAt (c : Cf) (k : Ky) (i : Nat) : Int := (hsh c.seed (16 + i) (kbytes k) : Int) % c.bloom
def bitsUpto (c : Cf) (k : Ky) (n : Nat) : List Int := (List.range n).map (bitAt c k)
theorem bitsUpto_succ (c : Cf) (k : Ky) (n : Nat) : bitsUpto c k (n + 1) = bitsUpto c k n ++ [bitAt c k n] := by simp [bitsUpto, List.range_succ]
theorem bitsUpto_length (c : Cf) (k : Ky) (n : Nat) : (bitsUpto c k n).length = n := by simp [bitsUpto]
def bitsOf (c : Cf) (k : Ky) : List Int := if kvld k = true then bitsUpto c k c.hashes.toNat else []
set_option maxRecDepth 100000 in
set_option maxHeartbeats 4000000 in
theorem bits_any (gf : Nat) (c : Cf) (k : Ky) (w : World) (h : At w gf 100 (fc c)) (h1 : 0 ≤ c.hashes) (h2 : c.hashes ≤ 80) (hb1 : 1 ≤ c.bloom) :
    Calls Try.prog 64 #[.pointer (some ⟨gf, 0, none⟩), .agg (kc k)] w fun e w' => ∃ v, e = .returned v ∧ OI w' w.heap.size v (bitsOf c k) ∧ Below w.heap.size w w' := by
  have H := Lib.hid h
  clear h
  cases hv : kvld k
  · have HS := Lib.hid (show bitsOf c k = [] by unfold bitsOf; rw [hv]; rfl)
    go_enter Try.func64, Try.ntmps64
    go_wp2_with fail
    refine (may_any gf k _).mono ?_
    rintro e w1 ⟨rfl, hb⟩
    rw [hv]
    go_wp2_with fail
    go_ret
    exact ⟨_, rfl, by rw [HS.out]; exact OI.nil _ _, step_below ((Below.refl _ w).alloc (Nat.le_refl _) _) hb⟩
  · obtain ⟨N, hN⟩ : ∃ N : Nat, c.hashes = N := ⟨c.hashes.toNat, by omega⟩
    have HS := Lib.hid (show bitsOf c k = bitsUpto c k N by unfold bitsOf; rw [hv, if_pos rfl, hN, Int.toNat_natCast])
    rw [hN] at h1 h2
    go_enter Try.func64, Try.ntmps64
    go_wp2_with fail
    refine (may_any gf k _).mono ?_
    rintro e w1 ⟨rfl, hb⟩
    rw [hv]
    have hA := (At.new w 57 (kc k)).below hb (by simp)
    have hF := ((H.out.alloc (.cells (kc k) 57)).below hb (by have := H.out.lt; simp; omega))
    have HB := Lib.hid (step_below ((Below.refl _ w).alloc (Nat.le_refl _) _) hb)
    obtain ⟨g, hg⟩ : ∃ g, g = w.heap.size := ⟨_, rfl⟩
    rw [← hg] at hA
    rw [← hg]
    have hfl := hF.lt
    have hf4 := hF.cell 4
    rw [fc_get c 4 (by omega), cl_head c 4 (by omega)] at hf4
    simp only [Cf.head, List.getElem?_cons_zero, List.getElem?_cons_succ, hN] at hf4
    have HF := Lib.hid hF
    have HA := Lib.hid hA
    clear hA hb hF hg hN
    go_wp2_with fail
    go_loopw [4, 5, 15] (fun v _ i wr => ∃ n : Nat, n ≤ N ∧ i = .int .i64 n ∧ OI wr w1.heap.size v (bitsUpto c k n) ∧ Below w1.heap.size w1 wr) (fun _ _ i _ => N - (intOf i).toNat)
    case atStart => exact ⟨0, Nat.zero_le _, rfl, OI.nil _ _, Below.refl _ _⟩
    case round =>
      obtain ⟨n, hn, rfl, hoi, hbw⟩ := hrel
      have HOI := Lib.hid hoi
      have HBW := Lib.hid hbw
      clear hoi hbw
      by_cases hlt : n < N
      · have hA := HA.out.below HBW.out HA.out.lt
        have hF := HF.out.below HBW.out HF.out.lt
        have hr := hA.row
        have ho := hA.open
        have hl := hA.lt
        have hfl2 := hF.lt
        have hf3 := hF.cell 3
        rw [fc_get c 3 (by omega), cl_head c 3 (by omega)] at hf3
        simp only [Cf.head, List.getElem?_cons_zero, List.getElem?_cons_succ] at hf3
        have HF2 := Lib.hid hF
        have hz : ¬ c.bloom = 0 := by omega
        have hsm : IntKind.i64.wrap (16 + (n : Int)) = ((16 + n : Nat) : Int) := by rw [IntKind.wrap_i64]; omega
        have hix : ((hsh c.seed (16 + n) (kbytes k) : Nat) : Int).tmod c.bloom = bitAt c k n := Int.tmod_eq_emod_of_nonneg (Int.natCast_nonneg _)
        have HIX := Lib.hid hix
        have hg1 : ¬ (w1.heap.size ≤ g) := by have := HA.out.lt; omega
        have hg2 : ¬ (w1.heap.size ≤ gf) := by have := HF.out.lt; omega
        clear hA hF hix hf4 hfl
        go_wp2_with fail
        refine region_sq (fun i => w1.heap.size ≤ i) [(0, true), (1, true), (2, true), (3, true), (4, true), (6, true), (7, true), (8, true), (9, true), (10, true), (5, false), (11, true), (12, false), (13, false), (14, true)] (by kernel_rfl) (by kernel_rfl) (fun _ _ d _ _ h => by cases d <;> exact h) ?_
        repeat (first
          | (refine sq_yes rfl (by rfl) (fun w' hM => by ((try replace hM := hM.of_drew); obtain ⟨hR1, hR2, hR3⟩ := hM.rules; clear hM; go_simp; with_reducible rfl)) ?_; simp only [Act.put, List.setIfInBounds_toArray, List.set_cons_zero, List.set_cons_succ])
          | (refine sq_no rfl (by rfl) ?_; simp only [Act.put, List.setIfInBounds_toArray, List.set_cons_zero, List.set_cons_succ]))
        clear hsm
        refine sq_do_yes rfl (by rfl) (fun K hK => ?_)
        go_wp2_with fail
        refine (hash_any gf c k (16 + n) (by omega) _ HF2.out.drew).mono ?_
        rintro e w2 ⟨rfl, hb2⟩
        have HB2 := Lib.hid (step_below (Below.refl wr.heap.size wr).drew hb2)
        go_wp2_with fail
        refine ⟨Mod.of_below hb2, ?_⟩
        clear hb2
        have hix := HIX.out
        repeat (first
          | (refine sq_yes rfl (by rfl) (fun w' hM => by ((try replace hM := hM.of_drew); obtain ⟨hR1, hR2, hR3⟩ := hM.rules; clear hM; go_simp; with_reducible rfl)) ?_; simp only [Act.put, List.setIfInBounds_toArray, List.set_cons_zero, List.set_cons_succ])
          | (refine sq_no rfl (by rfl) ?_; simp only [Act.put, List.setIfInBounds_toArray, List.set_cons_zero, List.set_cons_succ]))
        clear hix
        refine sq_do_yes rfl (by rfl) (fun K hK => ?_)
        go_wp2_with fail
        refine ⟨(Mod.refl _ _).alloc _, ?_⟩
        have hlen := bitsUpto_length c k n
        refine sq_do_yes rfl (by rfl) (fun K hK => ?_)
        refine wp_appi w1.heap.size _ (bitsUpto c k n) (bitAt c k n) _ ((HOI.out.below HB2.out).below ((Below.refl _ _).alloc (Nat.le_refl _) _)) (by omega) (by have := HBW.out.size; have := HB2.out.size; omega) rfl rfl rfl rfl rfl ?_
        clear hlen
        intro v4 w4 ho4 hb4 hm4
        have HO4 := Lib.hid ho4
        have HB4 := Lib.hid (((HBW.out.trans (HB2.out.mono HBW.out.size)).alloc (by have := HBW.out.size; have := HB2.out.size; omega) _).trans hb4)
        refine hK _ _ ⟨hm4, ?_⟩
        simp only [Act.put, List.setIfInBounds_toArray, List.set_cons_zero, List.set_cons_succ]
        clear hm4 ho4 hb4
        repeat (first
          | (refine sq_yes rfl (by rfl) (fun w' hM => by ((try replace hM := hM.of_drew); obtain ⟨hR1, hR2, hR3⟩ := hM.rules; clear hM; go_simp; with_reducible rfl)) ?_; simp only [Act.put, List.setIfInBounds_toArray, List.set_cons_zero, List.set_cons_succ])
          | (refine sq_no rfl (by rfl) ?_; simp only [Act.put, List.setIfInBounds_toArray, List.set_cons_zero, List.set_cons_succ]))
        refine sq_end ?_
        go_wp2_with fail
        go_roundw
        case rel => exact ⟨n + 1, by omega, by go_num, by rw [bitsUpto_succ]; exact HO4.out, HB4.out⟩
        case measure => simp [intOf]; omega
      · obtain rfl : n = N := by omega
        go_wp2_with fail
        go_ret
        exact ⟨_, rfl, by rw [HS.out]; exact HOI.out.base HB.out.size, HB.out.trans (HBW.out.mono HB.out.size)⟩
end Go.Proofs.Ytgjecemmejaieaa

/-
  May a configuration be? family.Check, and the document's.
-/
namespace Go.Proofs.Ytgjecemmejaieaa
open Go.RowKit
def wi (n low high : Int) : Bool := decide (low ≤ n) && decide (n ≤ high)
def pw (n low high : Int) : Bool := wi n low high && (bits .and .i64 n (wrap64 (n - 1)) == 0)
def sizesOk (c : Cf) : Bool := wi c.stages 1 4 && pw c.size 2 1024 && wi c.digest 1 16 && pw c.bloom 8 65536 && wi c.hashes 1 4
def poolsOk (c : Cf) : Bool := wi c.slots 1 64 && wi c.versions 2 16 && wi c.queue 1 256 && wi c.evict 1 64
def timesOk (c : Cf) : Bool := wi c.idle 1 1000 && wi c.linger 1 1000 && wi c.fails 1 10
def ownsOk (c : Cf) : Bool := vld c.own && vld c.own6 && (!c.encap || !c.own.v6 && c.own6.v6)
def cok (c : Cf) : Bool := sizesOk c && poolsOk c && timesOk c && ownsOk c
theorem wi_iff {n low high : Int} : wi n low high = true ↔ low ≤ n ∧ n ≤ high := by simp [wi]
set_option maxRecDepth 100000 in
theorem within_any (n low high : Int) (w : World) : Calls Try.prog 53 #[.int .i64 n, .int .i64 low, .int .i64 high] w fun e w' => e = .returned (.bool (wi n low high)) ∧ w' = w := by
  by_cases h1 : low ≤ n
  · by_cases h2 : n ≤ high
    · have H := Lib.hid (show wi n low high = true by simp [wi, h1, h2])
      go_enter Try.func53, Try.ntmps53
      go_wp2_with fail
      go_ret
      exact ⟨by rw [H.out]; rfl, rfl⟩
    · have H := Lib.hid (show wi n low high = false by simp [wi, h2])
      go_enter Try.func53, Try.ntmps53
      go_wp2_with fail
      go_ret
      exact ⟨by rw [H.out]; rfl, rfl⟩
  · have H := Lib.hid (show wi n low high = false by simp [wi, h1])
    have hd : decide (low ≤ n) = false := by simpa using h1
    go_enter Try.func53, Try.ntmps53
    go_wp2_with fail
    go_ret
    exact ⟨by rw [H.out]; rfl, rfl⟩
set_option maxRecDepth 100000 in
theorem power_any (n low high : Int) (w : World) (hl : 1 ≤ low) (hh : high ≤ 65536) : Calls Try.prog 54 #[.int .i64 n, .int .i64 low, .int .i64 high] w fun e w' => e = .returned (.bool (pw n low high)) ∧ w' = w := by
  cases h : wi n low high
  · have H := Lib.hid (show pw n low high = false by simp [pw, h])
    go_enter Try.func54, Try.ntmps54
    go_wp2_with (refine (within_any _ _ _ _).mono ?_; rintro e w' ⟨rfl, rfl⟩)
    go_ret
    exact ⟨by rw [H.out]; rfl, rfl⟩
  · have hb := wi_iff.1 h
    have hw : wrap64 (n - 1) = n - 1 := IntWalk.wrap64_in _ ⟨by omega, by omega⟩
    have H := Lib.hid (show pw n low high = (bits .and .i64 n (n - 1) == 0) by simp [pw, h, hw])
    clear hw
    go_enter Try.func54, Try.ntmps54
    go_wp2_with (refine (within_any _ _ _ _).mono ?_; rintro e w' ⟨rfl, rfl⟩)
    go_ret
    exact ⟨by rw [H.out]; rfl, rfl⟩
end Go.Proofs.Ytgjecemmejaieaa
