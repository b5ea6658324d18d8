/-
  Configurations: their cells; a family in memory; the hash of a flow, and the document's.
-/
import Derived.Test.YthfgccibiajneaaFamMix
namespace Go.Proofs.Ythfgccibiajneaa
open Go.RowKit
structure Cf where
  stages : Int
  size : Int
  digest : Int
  bloom : Int
  hashes : Int
  slots : Int
  versions : Int
  queue : Int
  evict : Int
  idle : Int
  linger : Int
  fails : Int
  encap : Bool
  own : Adr
  own6 : Adr
  seed : Nat
  hseed : seed < 4294967296
def Cf.head (c : Cf) : List Value := [.int .i64 c.stages, .int .i64 c.size, .int .i64 c.digest, .int .i64 c.bloom, .int .i64 c.hashes, .int .i64 c.slots, .int .i64 c.versions, .int .i64 c.queue, .int .i64 c.evict, .int .i64 c.idle, .int .i64 c.linger, .int .i64 c.fails, .bool c.encap]
def Cf.l (c : Cf) : List Value := c.head ++ (c.own.l ++ (c.own6.l ++ [.int .u32 c.seed]))
def cc (c : Cf) : Array Value := c.l.toArray
theorem Cf.l_length (c : Cf) : c.l.length = 48 := by simp [Cf.l, Cf.head, Adr.l_length]
@[go_sem] theorem cc_size (c : Cf) : (cc c).size = 48 := c.l_length
theorem cl_get (c : Cf) (j : Nat) : (cc c)[j]? = c.l[j]? := by simp [cc]
theorem cl_head (c : Cf) (j : Nat) (h : j < 13) : (cc c)[j]? = c.head[j]? := by
  rw [cl_get, Cf.l, List.getElem?_append_left (by simpa [Cf.head] using h)]
theorem cl_own (c : Cf) (j : Nat) (h : j < 17) : (cc c)[j + 13]? = (ac c.own)[j]? := by
  have := c.own.l_length
  rw [cl_get, Cf.l, List.getElem?_append_right (by simp [Cf.head]), List.getElem?_append_left (by simp [Cf.head]; omega), ac_get]
  simp [Cf.head]
theorem cl_own6 (c : Cf) (j : Nat) (h : j < 17) : (cc c)[j + 30]? = (ac c.own6)[j]? := by
  have := c.own.l_length; have := c.own6.l_length
  rw [cl_get, Cf.l, List.getElem?_append_right (by simp [Cf.head]), List.getElem?_append_right (by simp [Cf.head]; omega), List.getElem?_append_left (by simp [Cf.head]; omega), ac_get]
  congr 1; simp [Cf.head]; omega
theorem cl_seed (c : Cf) : (cc c)[47]? = some (.int .u32 c.seed) := by
  have := c.own.l_length; have := c.own6.l_length
  rw [cl_get, Cf.l, List.getElem?_append_right (by simp [Cf.head]), List.getElem?_append_right (by simp [Cf.head]; omega), List.getElem?_append_right (by simp [Cf.head]; omega)]
  have e : 47 - c.head.length - c.own.l.length - c.own6.l.length = 0 := by simp [Cf.head]; omega
  rw [e]; rfl
theorem cc_13? (c : Cf) : (cc c)[13]? = some (.bool c.own.v6) := by rw [cl_own c 0 (by omega)]; exact ac_0? _
theorem cc_30? (c : Cf) : (cc c)[30]? = some (.bool c.own6.v6) := by rw [cl_own6 c 0 (by omega)]; exact ac_0? _
@[go_sem] theorem cc_0 (c : Cf) (h : 0 < (cc c).size) : (cc c)[0] = .int .i64 c.stages := get_of (cl_head c 0 (by omega)) h
@[go_sem] theorem cc_1 (c : Cf) (h : 1 < (cc c).size) : (cc c)[1] = .int .i64 c.size := get_of (cl_head c 1 (by omega)) h
@[go_sem] theorem cc_2 (c : Cf) (h : 2 < (cc c).size) : (cc c)[2] = .int .i64 c.digest := get_of (cl_head c 2 (by omega)) h
@[go_sem] theorem cc_3 (c : Cf) (h : 3 < (cc c).size) : (cc c)[3] = .int .i64 c.bloom := get_of (cl_head c 3 (by omega)) h
@[go_sem] theorem cc_4 (c : Cf) (h : 4 < (cc c).size) : (cc c)[4] = .int .i64 c.hashes := get_of (cl_head c 4 (by omega)) h
@[go_sem] theorem cc_5 (c : Cf) (h : 5 < (cc c).size) : (cc c)[5] = .int .i64 c.slots := get_of (cl_head c 5 (by omega)) h
@[go_sem] theorem cc_6 (c : Cf) (h : 6 < (cc c).size) : (cc c)[6] = .int .i64 c.versions := get_of (cl_head c 6 (by omega)) h
@[go_sem] theorem cc_7 (c : Cf) (h : 7 < (cc c).size) : (cc c)[7] = .int .i64 c.queue := get_of (cl_head c 7 (by omega)) h
@[go_sem] theorem cc_8 (c : Cf) (h : 8 < (cc c).size) : (cc c)[8] = .int .i64 c.evict := get_of (cl_head c 8 (by omega)) h
@[go_sem] theorem cc_9 (c : Cf) (h : 9 < (cc c).size) : (cc c)[9] = .int .i64 c.idle := get_of (cl_head c 9 (by omega)) h
@[go_sem] theorem cc_10 (c : Cf) (h : 10 < (cc c).size) : (cc c)[10] = .int .i64 c.linger := get_of (cl_head c 10 (by omega)) h
@[go_sem] theorem cc_11 (c : Cf) (h : 11 < (cc c).size) : (cc c)[11] = .int .i64 c.fails := get_of (cl_head c 11 (by omega)) h
@[go_sem] theorem cc_12 (c : Cf) (h : 12 < (cc c).size) : (cc c)[12] = .bool c.encap := get_of (cl_head c 12 (by omega)) h
@[go_sem] theorem cc_13 (c : Cf) (h : 13 < (cc c).size) : (cc c)[13] = .bool c.own.v6 := get_of (cc_13? c) h
@[go_sem] theorem cc_30 (c : Cf) (h : 30 < (cc c).size) : (cc c)[30] = .bool c.own6.v6 := get_of (cc_30? c) h
@[go_sem] theorem cc_47 (c : Cf) (h : 47 < (cc c).size) : (cc c)[47] = .int .u32 c.seed := get_of (cl_seed c) h
@[go_sem] theorem cc_own (c : Cf) : (cc c).extract 13 30 = ac c.own := ext_of (a := 13) (n := 17) (ac_size _) (by rw [cc_size]; omega) fun j hj => cl_own c j hj
@[go_sem] theorem cc_own6 (c : Cf) : (cc c).extract 30 47 = ac c.own6 := ext_of (a := 30) (n := 17) (ac_size _) (by rw [cc_size]; omega) fun j hj => cl_own6 c j hj
@[go_sem] theorem cc_all (c : Cf) : (cc c).extract 0 48 = cc c := ext_of (a := 0) (n := 48) (cc_size _) (by rw [cc_size]; omega) fun j _ => rfl
theorem sizeC : (Try.prog.info? 27).map (·.size) = some 48 := by kernel_rfl
theorem loadC (x : Operand) (dst : Option Tmp) (t : TypeId) (pos : String) (after : Array Edge) (g : Option (Nat × Bool)) (f : Operand → Value) (w : World)
    (hx : plainPtr (f x) = true) (ho : open_ w (blk (f x)) = true) (hs : offOf (f x) + 48 ≤ (row w (blk (f x))).size) :
    (execOp f ⟨dst, .load 27 x, t, pos, after, g⟩).run Try.prog w = .ok (.value (.agg ((row w (blk (f x))).extract (offOf (f x)) (offOf (f x) + 48)))) w :=
  exec_load_part 27 _ 48 Try.underlying27 rfl sizeC x dst t pos after g f w hx ho hs
theorem loadT (x : Operand) (dst : Option Tmp) (t : TypeId) (pos : String) (after : Array Edge) (g : Option (Nat × Bool)) (f : Operand → Value) (w : World)
    (hx : plainPtr (f x) = true) (ho : open_ w (blk (f x)) = true) (hs : offOf (f x) + 256 ≤ (row w (blk (f x))).size) :
    (execOp f ⟨dst, .load 136 x, t, pos, after, g⟩).run Try.prog w = .ok (.value (.agg ((row w (blk (f x))).extract (offOf (f x)) (offOf (f x) + 256)))) w :=
  exec_load_part 136 _ 256 Try.underlying136 rfl size26 x dst t pos after g f w hx ho hs
attribute [go_sem ↓] loadC loadT
/-- A family's cells. -/
def fc (c : Cf) : Array Value := cc c ++ tabv (poly 0) ++ tabv (poly 1) ++ tabv (poly 2) ++ tabv (poly 3)
theorem tabv_size (p : Nat) : (tabv p).size = 256 := tabk_size p 256
@[go_sem] theorem fc_size (c : Cf) : (fc c).size = 1072 := by simp [fc, cc_size, tabv_size]
theorem fc_get (c : Cf) (j : Nat) (h : j < 48) : (fc c)[j]? = (cc c)[j]? := by
  unfold fc
  rw [Array.getElem?_append_left (by simp [cc_size, tabv_size]; omega), Array.getElem?_append_left (by simp [cc_size, tabv_size]; omega), Array.getElem?_append_left (by simp [cc_size, tabv_size]; omega), Array.getElem?_append_left (by simp [cc_size]; omega)]
@[go_sem] theorem fc_t0 (c : Cf) : (fc c).extract 48 304 = tabv (poly 0) := ext_of (a := 48) (n := 256) (tabv_size _) (by rw [fc_size]; omega) fun j hj => by
  unfold fc
  rw [Array.getElem?_append_left (by simp [cc_size, tabv_size]; omega), Array.getElem?_append_left (by simp [cc_size, tabv_size]; omega), Array.getElem?_append_left (by simp [cc_size, tabv_size]; omega), Array.getElem?_append_right (by simp [cc_size])]
  congr 1; simp [cc_size]
@[go_sem] theorem fc_t1 (c : Cf) : (fc c).extract 304 560 = tabv (poly 1) := ext_of (a := 304) (n := 256) (tabv_size _) (by rw [fc_size]; omega) fun j hj => by
  unfold fc
  rw [Array.getElem?_append_left (by simp [cc_size, tabv_size]; omega), Array.getElem?_append_left (by simp [cc_size, tabv_size]; omega), Array.getElem?_append_right (by simp [cc_size, tabv_size])]
  rw [show j + 304 - (cc c ++ tabv (poly 0)).size = j by simp [cc_size, tabv_size]]
@[go_sem] theorem fc_t2 (c : Cf) : (fc c).extract 560 816 = tabv (poly 2) := ext_of (a := 560) (n := 256) (tabv_size _) (by rw [fc_size]; omega) fun j hj => by
  unfold fc
  rw [Array.getElem?_append_left (by simp [cc_size, tabv_size]; omega), Array.getElem?_append_right (by simp [cc_size, tabv_size])]
  rw [show j + 560 - (cc c ++ tabv (poly 0) ++ tabv (poly 1)).size = j by simp [cc_size, tabv_size]]
@[go_sem] theorem fc_t3 (c : Cf) : (fc c).extract 816 1072 = tabv (poly 3) := ext_of (a := 816) (n := 256) (tabv_size _) (by rw [fc_size]; omega) fun j hj => by
  unfold fc
  rw [Array.getElem?_append_right (by simp [cc_size, tabv_size])]
  rw [show j + 816 - (cc c ++ tabv (poly 0) ++ tabv (poly 1) ++ tabv (poly 2)).size = j by simp [cc_size, tabv_size]]
theorem of_int (p : Nat) (hp : p < 4294967296) (s : Int) (h0 : 0 ≤ s) (hs : s < 4294967296) (a : Option Addr) (n c : Nat) (l : List Nat) (w : World) (hb : Bytes w a n l) (hn : n ≤ 1000000) :
    Calls Try.prog 109 #[.agg (tabv p), .int .u32 s, .slice a n c] w fun e w' => e = .returned (.int .u32 (crc p s.toNat l : Nat)) ∧ w' = w.alloc (.cells (tabv p) 136) := by
  obtain ⟨s, rfl⟩ := Int.eq_ofNat_of_zero_le h0
  exact of_any p hp s (by omega) a n c l w hb hn
/-- A flow's n-th hash. -/
def hsh (s n : Nat) (l : List Nat) : Nat := mixN (crc (poly (n % 4)) ((s + 7919 * n) % 4294967296) l)
theorem hsh_lt (s n : Nat) (l : List Nat) : hsh s n l < 4294967296 := mixN_lt _
theorem kbytes_length (k : Ky) : (kbytes k).length ≤ 40 := by
  unfold kbytes
  split
  · simp [abytes_length]; split <;> split <;> omega
  · simp
theorem kbytes_lt (k : Ky) : ∀ c ∈ kbytes k, c < 256 := by
  intro c hc
  have h1 := k.hp; have h2 := k.hs; have h3 := k.hd; have h4 := kind_lt k; have h5 := abytes_lt k.src; have h6 := abytes_lt k.dst
  unfold kbytes at hc
  split at hc
  · simp only [List.mem_append, List.mem_cons, List.not_mem_nil, or_false] at hc
    rcases hc with ((((h | h) | h) | h) | h | h) | h | h
    · omega
    · omega
    · exact h5 c h
    · exact h6 c h
    all_goals omega
  · cases hc
end Go.Proofs.Ythfgccibiajneaa
