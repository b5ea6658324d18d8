/-
  Plain laws of remainders (no program in sight): one step of the check, eight steps, the table, the fold over bytes; all linear over exclusive or; one-to-one where the polynomial's top bit is set.
-/
import Derived.Laws.BitsAllLaws
namespace Go.Proofs.Ythfgccibiajneaa

/-- One step: the low bit leaves; if it was set the polynomial comes in. -/
def stp (p n : Nat) : Nat := if n % 2 = 1 then n / 2 ^^^ p else n / 2
/-- So many steps. -/
def stps (p : Nat) : Nat → Nat → Nat
  | 0, n => n
  | k + 1, n => stps p k (stp p n)
/-- A byte's. -/
def byt (p n c : Nat) : Nat := n / 256 ^^^ stps p 8 ((n % 256) ^^^ c)
def run (p n : Nat) (l : List Nat) : Nat := l.foldl (byt p) n
def inv (n : Nat) : Nat := n ^^^ 4294967295
def crc (p s : Nat) (l : List Nat) : Nat := inv (run p (inv s) l)

theorem xor_mod2 (a b : Nat) : (a ^^^ b) % 2 = (a % 2 + b % 2) % 2 := by
  have h : (a ^^^ b) % 2 = (a % 2) ^^^ (b % 2) := Nat.xor_mod_two_pow (n := 1)
  rw [h]
  rcases Nat.mod_two_eq_zero_or_one a with ha | ha <;> rcases Nat.mod_two_eq_zero_or_one b with hb | hb <;> rw [ha, hb] <;> rfl
theorem xor_div2 (a b : Nat) : (a ^^^ b) / 2 = a / 2 ^^^ b / 2 := by
  have := Nat.shiftRight_xor_distrib (a := a) (b := b) (i := 1)
  simpa [Nat.shiftRight_eq_div_pow] using this
theorem xor4 (a b c d : Nat) : (a ^^^ b) ^^^ (c ^^^ d) = (a ^^^ c) ^^^ (b ^^^ d) := by
  rw [Nat.xor_assoc, Nat.xor_assoc, ← Nat.xor_assoc b, Nat.xor_comm b c, Nat.xor_assoc c]
theorem stp_xor (p a b : Nat) : stp p (a ^^^ b) = stp p a ^^^ stp p b := by
  unfold stp
  rw [xor_mod2, xor_div2]
  rcases Nat.mod_two_eq_zero_or_one a with ha | ha <;> rcases Nat.mod_two_eq_zero_or_one b with hb | hb <;> simp [ha, hb]
  · rw [Nat.xor_assoc]
  · rw [Nat.xor_assoc, Nat.xor_assoc, Nat.xor_comm p]
  · rw [xor4, Nat.xor_self, Nat.xor_zero]
theorem stps_xor (p : Nat) : ∀ (k a b : Nat), stps p k (a ^^^ b) = stps p k a ^^^ stps p k b
  | 0, _, _ => rfl
  | k + 1, a, b => by rw [stps, stp_xor, stps_xor p k]; rfl
theorem stp_zero (p : Nat) : stp p 0 = 0 := rfl
theorem stps_zero (p : Nat) : ∀ k, stps p k 0 = 0
  | 0 => rfl
  | k + 1 => by rw [stps, stp_zero, stps_zero p k]
theorem stp_lt {p n : Nat} (hp : p < 4294967296) (hn : n < 4294967296) : stp p n < 4294967296 := by
  unfold stp
  split
  · exact Nat.xor_lt_two_pow (n := 32) (by omega) (by omega)
  · omega
theorem stps_lt {p : Nat} (hp : p < 4294967296) : ∀ (k : Nat) {n : Nat}, n < 4294967296 → stps p k n < 4294967296
  | 0, _, h => h
  | k + 1, _, h => stps_lt hp k (stp_lt hp h)
/-- Low bits that are nought leave without a trace. -/
theorem stps_shift (p : Nat) : ∀ (k m : Nat), stps p k (m * 2 ^ k) = m
  | 0, m => by simp [stps]
  | k + 1, m => by
    rw [stps]
    have h : stp p (m * 2 ^ (k + 1)) = m * 2 ^ k := by
      unfold stp
      have e : m * 2 ^ (k + 1) = 2 * (m * 2 ^ k) := by rw [Nat.pow_succ, ← Nat.mul_assoc, Nat.mul_comm 2]
      rw [e, if_neg (by omega)]; omega
    rw [h]; exact stps_shift p k m
theorem split_xor (n : Nat) : n = (n / 256) * 2 ^ 8 ^^^ n % 256 := by
  have h : (n / 256) * 2 ^ 8 + n % 256 = n := by omega
  have e := Nat.two_pow_add_eq_or_of_lt (i := 8) (b := n % 256) (by omega) (n / 256)
  apply Nat.eq_of_testBit_eq
  intro i
  rw [Nat.testBit_xor, Nat.testBit_mul_two_pow, show (256 : Nat) = 2 ^ 8 from rfl, Nat.testBit_mod_two_pow, Nat.testBit_div_two_pow]
  by_cases hi : i < 8
  · simp [hi, Nat.not_le.2 hi]
  · have h8 : 8 ≤ i := by omega
    simp [hi, h8]
/-- The table's step is eight steps of the whole. -/
theorem byt_eq (p n c : Nat) : byt p n c = stps p 8 (n ^^^ c) := by
  conv => rhs; rw [split_xor n, Nat.xor_assoc, stps_xor, stps_shift]
  rfl
theorem byt_lt {p n c : Nat} (hp : p < 4294967296) (hn : n < 4294967296) (hc : c < 256) : byt p n c < 4294967296 := by
  rw [byt_eq]; exact stps_lt hp 8 (Nat.xor_lt_two_pow (n := 32) (by omega) (by omega))
theorem run_lt {p : Nat} (hp : p < 4294967296) : ∀ (l : List Nat) {n : Nat}, n < 4294967296 → (∀ c ∈ l, c < 256) → run p n l < 4294967296
  | [], _, h, _ => h
  | c :: l, _, h, hl => run_lt hp l (byt_lt hp h (hl c (by simp))) (fun d hd => hl d (by simp [hd]))
theorem inv_lt {n : Nat} (h : n < 4294967296) : inv n < 4294967296 := Nat.xor_lt_two_pow (n := 32) (by omega) (by omega)
theorem inv_inv (n : Nat) : inv (inv n) = n := by unfold inv; rw [Nat.xor_assoc, Nat.xor_self, Nat.xor_zero]
theorem crc_lt {p s : Nat} {l : List Nat} (hp : p < 4294967296) (hs : s < 4294967296) (hl : ∀ c ∈ l, c < 256) : crc p s l < 4294967296 :=
  inv_lt (run_lt hp l (inv_lt hs) hl)
theorem run_append (p n : Nat) (a b : List Nat) : run p n (a ++ b) = run p (run p n a) b := by simp [run]
theorem crc_append (p s : Nat) (a b : List Nat) : crc p s (a ++ b) = crc p (crc p s a) b := by
  unfold crc; rw [inv_inv, run_append]
theorem crc_nil (p s : Nat) : crc p s [] = s := inv_inv s

/-- Exclusive ors of rows of one length. -/
def xors (a b : List Nat) : List Nat := List.zipWith (· ^^^ ·) a b
theorem run_xor (p : Nat) : ∀ (a b : List Nat) (m n : Nat), a.length = b.length → run p (m ^^^ n) (xors a b) = run p m a ^^^ run p n b
  | [], [], _, _, _ => rfl
  | x :: a, y :: b, m, n, h => by
    show run p (byt p (m ^^^ n) (x ^^^ y)) (xors a b) = run p (byt p m x) a ^^^ run p (byt p n y) b
    rw [byt_eq, byt_eq, byt_eq, xor4, stps_xor]
    exact run_xor p a b _ _ (by simpa using h)
theorem xor3 (a b c : Nat) : (a ^^^ b) ^^^ c = a ^^^ (b ^^^ c) := Nat.xor_assoc a b c
theorem crc_xor (p s : Nat) (a b : List Nat) (h : a.length = b.length) :
    crc p s a ^^^ crc p s b ^^^ crc p s (List.replicate a.length 0) = crc p s (xors a b) := by
  have e1 : xors (xors a b) (List.replicate a.length 0) = xors a b := by
    unfold xors
    apply List.ext_getElem
    · simp [List.length_zipWith, h]
    · intro i h1 h2; simp
  have h1 := run_xor p a b (inv s) (inv s) h
  have h2 := run_xor p (xors a b) (List.replicate a.length 0) (inv s ^^^ inv s) (inv s) (by simp [xors, List.length_zipWith, h])
  rw [e1, Nat.xor_self, Nat.zero_xor] at h2
  rw [Nat.xor_self] at h1
  unfold crc
  rw [h2, h1]
  unfold inv
  generalize run p (s ^^^ 4294967295) a = x
  generalize run p (s ^^^ 4294967295) b = y
  generalize run p (s ^^^ 4294967295) (List.replicate a.length 0) = z
  rw [xor4 x 4294967295 y, Nat.xor_self, Nat.xor_zero, Nat.xor_assoc, Nat.xor_assoc, Nat.xor_assoc]
/-- Two seeds part by the same, whatever the rows. -/
theorem crc_seeds (p s t : Nat) (a b : List Nat) (h : a.length = b.length) : crc p s a ^^^ crc p t a = crc p s b ^^^ crc p t b := by
  have key : ∀ l : List Nat, crc p s l ^^^ crc p t l = run p (s ^^^ t) (List.replicate l.length 0) := by
    intro l
    have h1 := run_xor p l l (inv s) (inv t) rfl
    have e : xors l l = List.replicate l.length 0 := by
      unfold xors
      apply List.ext_getElem
      · simp
      · intro i h1 h2; simp
    have e2 : inv s ^^^ inv t = s ^^^ t := by unfold inv; rw [xor4, Nat.xor_self, Nat.xor_zero]
    rw [e, e2] at h1
    unfold crc
    rw [h1]
    unfold inv
    rw [xor4, Nat.xor_self, Nat.xor_zero]
  rw [key, key, h]

/-- Where the polynomial's top bit is set a step can be undone. -/
theorem stp_inj {p a b : Nat} (hp : p < 4294967296) (ht : 2147483648 ≤ p) (ha : a < 4294967296) (hb : b < 4294967296) (h : stp p a = stp p b) : a = b := by
  have hz : stp p (a ^^^ b) = 0 := by rw [stp_xor, h, Nat.xor_self]
  have hx : a ^^^ b < 4294967296 := Nat.xor_lt_two_pow (n := 32) (by omega) (by omega)
  have h0 : a ^^^ b = 0 := by
    generalize a ^^^ b = x at *
    unfold stp at hz
    split at hz
    · exfalso
      have : x / 2 = p := by
        have := congrArg (· ^^^ p) hz
        simpa [Nat.xor_assoc] using this
      omega
    · omega
  have := congrArg (· ^^^ b) h0
  simpa [Nat.xor_assoc] using this
theorem stps_inj {p : Nat} (hp : p < 4294967296) (ht : 2147483648 ≤ p) : ∀ (k : Nat) {a b : Nat}, a < 4294967296 → b < 4294967296 → stps p k a = stps p k b → a = b
  | 0, _, _, _, _, h => h
  | k + 1, _, _, ha, hb, h => stp_inj hp ht ha hb (stps_inj hp ht k (stp_lt hp ha) (stp_lt hp hb) h)
theorem xor_cancel {a b c : Nat} (h : a ^^^ c = b ^^^ c) : a = b := by
  have := congrArg (· ^^^ c) h
  simpa [Nat.xor_assoc] using this
theorem xor_cancel' {a b c : Nat} (h : c ^^^ a = c ^^^ b) : a = b := by
  rw [Nat.xor_comm c, Nat.xor_comm c] at h; exact xor_cancel h
theorem byt_inj {p m n c : Nat} (hp : p < 4294967296) (ht : 2147483648 ≤ p) (hm : m < 4294967296) (hn : n < 4294967296) (hc : c < 256) (h : byt p m c = byt p n c) : m = n := by
  rw [byt_eq, byt_eq] at h
  exact xor_cancel (stps_inj hp ht 8 (Nat.xor_lt_two_pow (n := 32) (by omega) (by omega)) (Nat.xor_lt_two_pow (n := 32) (by omega) (by omega)) h)
theorem byt_inj' {p n c d : Nat} (hp : p < 4294967296) (ht : 2147483648 ≤ p) (hn : n < 4294967296) (hc : c < 256) (hd : d < 256) (h : byt p n c = byt p n d) : c = d := by
  rw [byt_eq, byt_eq] at h
  exact xor_cancel' (stps_inj hp ht 8 (Nat.xor_lt_two_pow (n := 32) (by omega) (by omega)) (Nat.xor_lt_two_pow (n := 32) (by omega) (by omega)) h)
theorem run_inj {p : Nat} (hp : p < 4294967296) (ht : 2147483648 ≤ p) : ∀ (l : List Nat) {m n : Nat}, m < 4294967296 → n < 4294967296 → (∀ c ∈ l, c < 256) → run p m l = run p n l → m = n
  | [], _, _, _, _, _, h => h
  | c :: l, _, _, hm, hn, hl, h =>
    byt_inj hp ht hm hn (hl c (by simp)) (run_inj hp ht l (byt_lt hp hm (hl c (by simp))) (byt_lt hp hn (hl c (by simp))) (fun d hd => hl d (by simp [hd])) h)
theorem inv_inj {a b : Nat} (h : inv a = inv b) : a = b := xor_cancel h
theorem crc_seed_inj {p s t : Nat} {l : List Nat} (hp : p < 4294967296) (ht : 2147483648 ≤ p) (hs : s < 4294967296) (hu : t < 4294967296) (hl : ∀ c ∈ l, c < 256) (h : crc p s l = crc p t l) : s = t :=
  inv_inj (run_inj hp ht l (inv_lt hs) (inv_lt hu) hl (inv_inj h))
theorem xor_ne (c b : Nat) (hb : b ≠ 0) : c ^^^ b ≠ c := by
  intro h
  have := congrArg (c ^^^ ·) h
  simp [← Nat.xor_assoc] at this
  exact hb this
/-- One byte turned: another check. -/
theorem crc_turn {p s : Nat} {l : List Nat} {i : Nat} {d : Nat} (hp : p < 4294967296) (ht : 2147483648 ≤ p) (hs : s < 4294967296) (hl : ∀ c ∈ l, c < 256) (hi : i < l.length) (hd : d < 256) (hne : d ≠ l[i]) :
    crc p s (l.set i d) ≠ crc p s l := by
  intro h
  have e : l = l.take i ++ l[i] :: l.drop (i + 1) := by simp
  have e2 : l.set i d = l.take i ++ d :: l.drop (i + 1) := List.set_eq_take_append_cons_drop .. |>.trans (if_pos hi)
  have h2 := inv_inj h
  rw [e2] at h2
  have h3 : run p (inv s) (l.take i ++ d :: l.drop (i + 1)) = run p (inv s) (l.take i ++ l[i] :: l.drop (i + 1)) := h2.trans (congrArg _ e)
  rw [run_append, run_append] at h3
  have hm := run_lt hp (l.take i) (inv_lt hs) (fun c hc => hl c (List.mem_of_mem_take hc))
  have hli : l[i] < 256 := hl _ (List.getElem_mem hi)
  have h4 := run_inj hp ht (l.drop (i + 1)) (byt_lt hp hm hd) (byt_lt hp hm hli) (fun c hc => hl c (List.mem_of_mem_drop hc)) h3
  exact hne (byt_inj' hp ht hm hd hli h4)

/-- A byte as its bits' exclusive or: so is its place in the table. -/
def bit (k i : Nat) : Nat := if k / 2 ^ i % 2 = 1 then 2 ^ i else 0
def sumTo (f : Nat → Nat) : Nat → Nat
  | 0 => 0
  | i + 1 => sumTo f i ^^^ f i
theorem sum_bits (k : Nat) : ∀ i, sumTo (bit k) i = k % 2 ^ i
  | 0 => by simp [sumTo, Nat.mod_one]
  | i + 1 => by
    rw [sumTo, sum_bits k i]
    apply Nat.eq_of_testBit_eq
    intro j
    rw [Nat.testBit_xor, Nat.testBit_mod_two_pow, Nat.testBit_mod_two_pow]
    unfold bit
    by_cases hb : k / 2 ^ i % 2 = 1
    · rw [if_pos hb, Nat.testBit_two_pow]
      by_cases hj : j < i
      · simp [hj, show j < i + 1 from by omega, show i ≠ j from by omega]
      · by_cases he : j = i
        · subst he
          have : k.testBit j = true := by rw [Nat.testBit_eq_decide_div_mod_eq]; simpa using hb
          simp [this]
        · simp [hj, show ¬ j < i + 1 from by omega, show i ≠ j from fun e => he e.symm]
    · rw [if_neg hb, Nat.zero_testBit, Bool.xor_false]
      by_cases hj : j < i
      · simp [hj, show j < i + 1 from by omega]
      · by_cases he : j = i
        · subst he
          have : k.testBit j = false := by rw [Nat.testBit_eq_decide_div_mod_eq]; simpa using hb
          simp [this]
        · simp [hj, show ¬ j < i + 1 from by omega]
theorem stps_sum (p k : Nat) : ∀ i, sumTo (fun j => stps p 8 (bit k j)) i = stps p 8 (sumTo (bit k) i)
  | 0 => (stps_zero p 8).symm
  | i + 1 => by rw [sumTo, sumTo, stps_xor, stps_sum p k i]
theorem stps_bits (p k : Nat) (hk : k < 256) : sumTo (fun j => stps p 8 (bit k j)) 8 = stps p 8 k := by
  rw [stps_sum, sum_bits, Nat.mod_eq_of_lt (by omega)]

def poly (i : Nat) : Nat := if i = 0 then 3988292384 else if i = 1 then 2197175160 else if i = 2 then 3945912366 else 3582100097
theorem poly_lt (i : Nat) : poly i < 4294967296 := by unfold poly; (repeat' split) <;> omega
theorem poly_top (i : Nat) : 2147483648 ≤ poly i := by unfold poly; (repeat' split) <;> omega
def nine : List Nat := [49, 50, 51, 52, 53, 54, 55, 56, 57]
theorem awake1 : crc 3988292384 0 nine = 3421780262 := by decide +kernel
theorem awake2 : crc 2197175160 0 nine = 3808858755 := by decide +kernel
theorem awake3 : stps 3988292384 8 1 = 1996959894 := by decide +kernel
end Go.Proofs.Ythfgccibiajneaa
