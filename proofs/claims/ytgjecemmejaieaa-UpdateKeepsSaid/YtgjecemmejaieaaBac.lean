/-
  Texts in one, each behind those that it needs: FamCrc, FamBytes.
-/
import Derived.Test.YtgjecemmejaieaaBab
import Derived.Test.YtgjecemmejaieaaRows
import Derived.WalkSpells
import Derived.WalkLawsBesides
import Derived.Lib.Hide
import Derived.Laws.MakeOwn
import Derived.Lib.AppendStr
import Derived.Deep.DeepAppendWide
namespace Go.Proofs.Ytgjecemmejaieaa
open Go.RowKit

theorem tmod_gt (k n : Int) (h : 0 < n) : -n < k.tmod n := by
  have h1 := Int.lt_tmod_of_pos k h
  omega
theorem rem_round (k n : Int) (h1 : 0 < n) (h2 : n ≤ 1000000) : (wrap64 (k.tmod n + n)).tmod n = k % n := by
  have a := Int.tmod_lt_of_pos k h1
  have b := tmod_gt k n h1
  have e : wrap64 (k.tmod n + n) = k.tmod n + n := by unfold wrap64; omega
  rw [e, Int.tmod_eq_emod_of_nonneg (by omega), Int.add_emod_right]
  rw [Int.tmod_eq_emod]
  split
  · simp
  · rw [← Int.eq_natAbs_of_nonneg (by omega)]; simp

set_option maxHeartbeats 400000 in
theorem round_any (k n : Int) (h1 : 0 < n) (h2 : n ≤ 1000000) (w : World) :
    Calls Try.prog 9 #[.int .i64 k, .int .i64 n] w fun e w' => e = .returned (.int .i64 (k % n)) ∧ w = w' := by
  have H := Lib.hid (rem_round k n h1 h2)
  go_enter Try.func9, Try.ntmps9
  go_wp2
  go_ret
  exact ⟨by simp [H.out], rfl⟩

/-- The table's cells: those below k are made. -/
def tabk (p k : Nat) : Array Value := ((List.range 256).map fun i => if i < k then .int .u32 (stps p 8 i : Nat) else .int .u32 0).toArray
def tabv (p : Nat) : Array Value := tabk p 256
theorem tabk_size (p k : Nat) : (tabk p k).size = 256 := by simp [tabk]
theorem tabk_get (p k i : Nat) : (tabk p k)[i]? = if i < 256 then some (if i < k then .int .u32 (stps p 8 i : Nat) else .int .u32 0) else none := by
  unfold tabk
  by_cases h : i < 256 <;> simp [h]
theorem tabk_set (p k : Nat) (hk : k < 256) : (tabk p k).setIfInBounds k (.int .u32 (stps p 8 k : Nat)) = tabk p (k + 1) := by
  apply Array.ext_getElem?
  intro i
  rw [Array.getElem?_setIfInBounds, tabk_get, tabk_get, tabk_size]
  by_cases h : k = i
  · subst h; simp [hk]
  · rw [if_neg h]
    by_cases h2 : i < 256
    · rw [if_pos h2, if_pos h2]
      by_cases h3 : i < k
      · rw [if_pos h3, if_pos (by omega)]
      · rw [if_neg h3, if_neg (by omega)]
    · rw [if_neg h2, if_neg h2]

theorem zero26' (w : World) : (zeroValue 97).run Try.prog w = .ok (.agg (Array.replicate 256 (.int .u32 0))) w := by kernel_rfl
theorem tabk_zero (p : Nat) : tabk p 0 = Array.replicate 256 (.int .u32 0) := by
  apply Array.ext_getElem?
  intro i
  rw [tabk_get]
  by_cases h : i < 256 <;> simp [h]
theorem zero26 (p : Nat) (w : World) : (zeroValue 97).run Try.prog w = .ok (.agg (tabk p 0)) w := by rw [tabk_zero]; exact zero26' w
theorem size26 : (Try.prog.info? 97).map (·.size) = some 256 := by kernel_rfl

theorem tabk_one (p k : Nat) : (tabk p k).all (·.oneCell') = true := by
  refine Array.all_eq_true_iff_forall_mem.2 (fun v hv => ?_)
  simp only [tabk, List.mem_toArray, List.mem_map] at hv
  obtain ⟨i, _, rfl⟩ := hv
  split <;> rfl
theorem and_one_odd (m : Nat) (hm : m < 4294967296) (h : m % 2 = 1) : bits .and .u32 (m : Int) 1 = 1 := by
  have := u32_and_nat m 1 hm (by omega)
  rw [Nat.and_one_is_mod, h] at this
  exact this
theorem and_one_even (m : Nat) (hm : m < 4294967296) (h : ¬ m % 2 = 1) : bits .and .u32 (m : Int) 1 = 0 := by
  have := u32_and_nat m 1 hm (by omega)
  rw [Nat.and_one_is_mod, show m % 2 = 0 from by omega] at this
  exact this
theorem half_odd (p m : Nat) (hp : p < 4294967296) (hm : m < 4294967296) (h : m % 2 = 1) : bits .xor .u32 ((m : Int) / 2) (p : Int) = (stp p m : Nat) := by
  have := u32_xor_nat (m / 2) p (by omega) hp
  unfold stp
  rw [if_pos h, ← this, Int.natCast_ediv]; rfl
theorem half_even (p m : Nat) (h : ¬ m % 2 = 1) : (m : Int) / 2 = (stp p m : Nat) := by
  unfold stp
  rw [if_neg h, Int.natCast_ediv]; rfl

set_option maxHeartbeats 400000 in
set_option maxRecDepth 100000 in
theorem make_any (p : Nat) (hp : p < 4294967296) (w : World) :
    Calls Try.prog 42 #[.int .u32 p] w fun e w' => e = .returned (.agg (tabv p)) ∧ w' = w.alloc (.cells (tabv p) 97) := by
  have hz := zero26 p
  go_enter Try.func42, Try.ntmps42
  go_wp2
  go_loopw [6] (fun i wr => ∃ k : Nat, k ≤ 256 ∧ i = .int .i64 k ∧ wr = w.alloc (.cells (tabk p k) 97)) (fun i _ => 256 - (intOf i).toNat)
  case atStart => exact ⟨0, by omega, rfl, rfl⟩
  case round =>
    obtain ⟨k, hk, rfl, rfl⟩ := hrel
    by_cases hlt : k < 256
    · go_wp2
      go_loop [4, 11] (fun n i => ∃ j : Nat, j ≤ 8 ∧ i = .int .i64 j ∧ ∃ m : Nat, m < 4294967296 ∧ n = .int .u32 m ∧ stps p (8 - j) m = stps p 8 k) (fun _ i => 8 - (intOf i).toNat)
      case atStart => exact ⟨0, by omega, rfl, k, by omega, rfl, rfl⟩
      case round =>
        obtain ⟨j, hj, rfl, m, hm, rfl, hmk⟩ := hrel
        have HM := Lib.hid hmk
        clear hmk
        by_cases hjt : j < 8
        · by_cases hodd : m % 2 = 1
          · have hb : bits .and .u32 (m : Int) 1 = 1 := and_one_odd m hm hodd
            go_wp2
            go_round
            case rel => exact ⟨j + 1, by omega, by go_num, _, stp_lt hp hm, by rw [half_odd p m hp hm hodd], by rw [← HM.out, show 8 - j = 8 - (j + 1) + 1 from by omega]; rfl⟩
            case measure => simp [intOf]; omega
          · have hb : bits .and .u32 (m : Int) 1 = 0 := and_one_even m hm hodd
            go_wp2
            go_round
            case rel => exact ⟨j + 1, by omega, by go_num, _, stp_lt hp hm, by rw [half_even p m hodd], by rw [← HM.out, show 8 - j = 8 - (j + 1) + 1 from by omega]; rfl⟩
            case measure => simp [intOf]; omega
        · obtain rfl : j = 8 := by omega
          have e : m = stps p 8 k := HM.out
          subst e
          have hc : (tabk p k)[k]? = some (.int .u32 0) := by rw [tabk_get]; simp [hlt]
          go_wp2
          go_roundw
          case rel => exact ⟨k + 1, by omega, by go_num, by rw [← tabk_set p k hlt]⟩
          case measure => simp [intOf]; omega
    · obtain rfl : k = 256 := by omega
      have hst := run_storeCells_new (P := Try.prog) w 97 (tabk p 256) (tabk p 256) (by rw [tabk_size]; exact size26) rfl (tabk_one p 256)
      go_wp2_with (refine wpList_load_row rfl 97 _ rfl w.heap.size rfl 97 (tabk p 256) (0, 0) _ (heap_alloc_new w _) Try.underlying97 rfl (by rw [tabk_size]; exact size26) ?_)
      exact bodyPost_ret (results_cell_row rfl _ _ w.heap.size 97 (tabk p 256) (0, 0) _ rfl (heap_alloc_new w _) Try.underlying97 rfl (by rw [tabk_size]; exact size26)) rfl ⟨rfl, rfl⟩

/-- A slice of bytes: nil, or so many cells that hold the list. -/
def Bytes (w : World) (a : Option Addr) (n : Nat) (l : List Nat) : Prop :=
  l.length = n ∧ (∀ c ∈ l, c < 256) ∧ (0 < n → ∃ b o, a = some ⟨b, o, none⟩ ∧ b < w.heap.size ∧ ∀ i, i < n → w.cell? ⟨b, o + i, none⟩ = some (.int .u8 (l.getD i 0 : Nat)))
theorem not_max (s : Nat) (hs : s < 4294967296) : bits .xor .u32 IntKind.u32.max (s : Int) = (inv s : Nat) := by
  have := u32_xor_nat 4294967295 s (by omega) hs
  rw [Nat.xor_comm] at this
  exact this
theorem low_xor (m c : Nat) (hc : c < 256) : bits .xor .u8 ((m : Int) % 256) (c : Int) = ((m % 256 ^^^ c : Nat) : Int) := by
  have := u8_xor_nat (m % 256) c (by omega) hc
  exact this
theorem tabv_get (p i : Nat) (h : i < 256) : (tabv p)[i]? = some (.int .u32 (stps p 8 i : Nat)) := by unfold tabv; rw [tabk_get]; simp [h]
theorem byt_bits (p m c : Nat) (hp : p < 4294967296) (hm : m < 4294967296) (hc : c < 256) : bits .xor .u32 ((m : Int) / 256) (stps p 8 (m % 256 ^^^ c) : Nat) = (byt p m c : Nat) := by
  have h : m % 256 ^^^ c < 256 := Nat.xor_lt_two_pow (n := 8) (by omega) (by omega)
  have := u32_xor_nat (m / 256) (stps p 8 (m % 256 ^^^ c)) (by omega) (stps_lt hp 8 (by omega))
  exact this
theorem run_snoc (p m : Nat) (l : List Nat) (k : Nat) (h : k < l.length) : run p m (l.take (k + 1)) = byt p (run p m (l.take k)) (l.getD k 0) := by
  rw [List.take_succ_eq_append_getElem h, run_append, List.getD_eq_getElem?_getD, List.getElem?_eq_getElem h]; rfl

set_option maxHeartbeats 400000 in
set_option maxRecDepth 100000 in
theorem of_any (p : Nat) (hp : p < 4294967296) (s : Nat) (hs : s < 4294967296) (a : Option Addr) (n c : Nat) (l : List Nat) (w : World) (hb : Bytes w a n l) (hn : n ≤ 1000000) :
    Calls Try.prog 71 #[.agg (tabv p), .int .u32 s, .slice a n c] w fun e w' => e = .returned (.int .u32 (crc p s l : Nat)) ∧ w' = w.alloc (.cells (tabv p) 97) := by
  obtain ⟨hl, hl8, hcell⟩ := hb
  have HL := Lib.hid hl
  clear hl
  have HC := Lib.hid hcell
  clear hcell
  have H8 := Lib.hid hl8
  clear hl8
  have hx := not_max s hs
  go_enter Try.func71, Try.ntmps71
  go_wp2
  go_loop [7, 14] (fun m i => ∃ k : Nat, k ≤ n ∧ i = .int .i64 k ∧ m = .int .u32 (run p (inv s) (l.take k) : Nat)) (fun _ i => n - (intOf i).toNat)
  case atStart => exact ⟨0, by omega, rfl, rfl⟩
  case round =>
    obtain ⟨k, hk, rfl, rfl⟩ := hrel
    have hm := run_lt hp (l.take k) (inv_lt hs) (fun c hc => H8.out c (List.mem_of_mem_take hc))
    by_cases hlt : k < n
    · obtain ⟨b, o, rfl, hxb, hxc⟩ := HC.out (by omega)
      have hx1 := hxc k hlt
      clear hxc
      have hkl : k < l.length := by have := HL.out; omega
      have hd : l.getD k 0 < 256 := H8.out _ (by rw [List.getD_eq_getElem?_getD, List.getElem?_eq_getElem hkl]; exact List.getElem_mem hkl)
      have HS := Lib.hid (run_snoc p (inv s) l k hkl)
      clear hkl
      generalize run p (inv s) (l.take k) = m at *
      generalize l.getD k 0 = d at *
      have h1 := low_xor m d hd
      have h2 := byt_bits p m d hp hm hd
      have h3 : m % 256 ^^^ d < 256 := Nat.xor_lt_two_pow (n := 8) (by omega) (by omega)
      have h4 := tabv_get p _ h3
      generalize m % 256 ^^^ d = j at *
      go_wp2
      go_round
      case rel => exact ⟨k + 1, by omega, by go_num, by rw [HS.out]⟩
      case measure => simp [intOf]; omega
    · obtain rfl : k = n := by omega
      have e : l.take k = l := List.take_of_length_le (by have := HL.out; omega)
      rw [e] at hm ⊢
      have hy := not_max _ hm
      go_wp2
      go_ret
      exact ⟨rfl, rfl⟩

/-- The reference's check, bit by bit. -/
def bitwise (p n c : Nat) : Nat := stps p 8 (n ^^^ c)
theorem xor_byte (m c : Nat) (hm : m < 4294967296) (hc : c < 256) : bits .xor .u32 (m : Int) (c : Int) = (m ^^^ c : Nat) := u32_xor_nat m c hm (by omega)
theorem max_xor (s : Nat) (hs : s < 4294967296) : bits .xor .u32 (s : Int) 4294967295 = (inv s : Nat) := u32_xor_nat s 4294967295 hs (by omega)
theorem beq_one (m : Nat) (h : m % 2 = 1) : ((m : Int) % 2 == 1) = true := by simp; omega

theorem known_any (w : World) :
    Calls Try.prog 41 #[] w fun e w' => e = .returned (.slice (some ⟨w.heap.size, 0, none⟩) 4 4) ∧ w' = w.alloc (.cells #[.int .u32 (poly 0 : Nat), .int .u32 (poly 1 : Nat), .int .u32 (poly 2 : Nat), .int .u32 (poly 3 : Nat)] 31) := by
  go_enter Try.func41, Try.ntmps41
  go_wp2
  go_ret
  exact ⟨rfl, rfl⟩

end Go.Proofs.Ytgjecemmejaieaa

/-
  Slices of bytes: read, owned, appended to; slices.Clone, octet's size, has, Put, Append; slices.Grow, Concat.
-/
namespace Go.Proofs.Ytgjecemmejaieaa
open Go.RowKit
def u8s (l : List Nat) : List Value := l.map fun c => .int .u8 (c : Nat)
theorem u8s_length (l : List Nat) : (u8s l).length = l.length := by simp [u8s]
theorem u8s_append (a b : List Nat) : u8s (a ++ b) = u8s a ++ u8s b := by simp [u8s]
theorem u8s_one (l : List Nat) : ∀ u ∈ u8s l, u.oneCell' = true := by
  intro u hu
  obtain ⟨c, _, rfl⟩ := List.mem_map.1 hu
  rfl
theorem rds_of_bytes {w : World} {a : Option Addr} {n : Nat} {l : List Nat} (h : Bytes w a n l) : Rds w 1 a n (u8s l) := by
  obtain ⟨h1, _, h3⟩ := h
  refine ⟨by simp [u8s, h1], fun hn => ?_⟩
  obtain ⟨b, o, rfl, hb, hc⟩ := h3 hn
  refine ⟨_, rfl, hb, fun j u hu => ?_⟩
  have hadd : (⟨b, o, none⟩ : Addr).add j = ⟨b, o + j, none⟩ := by unfold Addr.add; split <;> simp_all
  simp only [u8s, List.getElem?_map, Option.map_eq_some_iff] at hu
  obtain ⟨c, hc', rfl⟩ := hu
  have hj : j < n := by have := (List.getElem?_eq_some_iff.1 hc').1; omega
  rw [hadd, hc j hj, List.getD_eq_getElem?_getD, hc']
  rfl
theorem Bytes.below {w w' : World} {a : Option Addr} {n : Nat} {l : List Nat} (h : Bytes w a n l) (hb : Below w.heap.size w w') : Bytes w' a n l := by
  obtain ⟨h1, h2, h3⟩ := h
  refine ⟨h1, h2, fun hn => ?_⟩
  obtain ⟨b, o, rfl, hlt, hc⟩ := h3 hn
  exact ⟨b, o, rfl, Nat.lt_of_lt_of_le hlt hb.size, fun i hi => (hb.cell (p := ⟨b, o + i, none⟩) hlt).trans (hc i hi)⟩
theorem Bytes.mod {w w' : World} {M : Nat → Prop} {a : Option Addr} {n : Nat} {l : List Nat} (h : Bytes w a n l) (hb : Mod M w w') (hm : ∀ b o, a = some ⟨b, o, none⟩ → ¬ M b) : Bytes w' a n l := by
  obtain ⟨h1, h2, h3⟩ := h
  refine ⟨h1, h2, fun hn => ?_⟩
  obtain ⟨b, o, rfl, hlt, hc⟩ := h3 hn
  exact ⟨b, o, rfl, Nat.lt_of_lt_of_le hlt hb.size, fun i hi => (hb.cell (p := ⟨b, o + i, none⟩) hlt (hm b o rfl)).trans (hc i hi)⟩
/-- A slice of bytes of the call's own. -/
def OB (w : World) (base : Nat) (v : Value) (l : List Nat) : Prop := w.ownsRow base 5 1 v l.length (u8s l) ∧ ∀ c ∈ l, c < 256
theorem OB.bytes {w : World} {base : Nat} {v : Value} {l : List Nat} (h : OB w base v l) : ∃ a c, v = .slice a l.length c ∧ Bytes w a l.length l ∧ l.length ≤ c := by
  obtain ⟨⟨h1, h2⟩, h3⟩ := h
  rcases h2 with ⟨rfl, h0⟩ | ⟨g, cap, cur, rfl, h4, h5, h6, h7, h8, h9⟩
  · refine ⟨none, 0, by rw [h0], ⟨rfl, h3, fun hn => absurd hn (by omega)⟩, by omega⟩
  · refine ⟨_, cap, rfl, ⟨rfl, h3, fun hn => ⟨g, 0, rfl, (Array.getElem?_eq_some_iff.1 h5).1, fun i hi => ?_⟩⟩, h6⟩
    rw [Nat.zero_add, cell_of_row w g i cur _ (0, 0) h5]
    have := congrArg (fun x : List Value => x[i]?) h9
    simp only [List.getElem?_take, Nat.mul_one, if_pos hi, u8s, List.getElem?_map] at this
    rw [← Array.getElem?_toList, this, List.getElem?_eq_getElem hi, List.getD_eq_getElem?_getD, List.getElem?_eq_getElem hi]
    rfl
theorem ob_some {w : World} {base : Nat} {v : Value} {l : List Nat} {m : Nat} (h : OB w base v l) (hm : l.length = m ∧ 0 < m) : ∃ g c, v = .slice (some ⟨g, 0, none⟩) m c := by
  rcases h.1.2 with ⟨_, h0⟩ | ⟨g, cap, cur, h1, _⟩
  · omega
  · exact ⟨g, cap, by rw [h1, hm.1]⟩
theorem OB.below {w w' : World} {base : Nat} {v : Value} {l : List Nat} (h : OB w base v l) (hb : Below w.heap.size w w') : OB w' base v l := by
  refine ⟨⟨h.1.1, ?_⟩, h.2⟩
  rcases h.1.2 with h1 | ⟨g, cap, cur, h1, h2, h3, h4⟩
  · exact .inl h1
  · exact .inr ⟨g, cap, cur, h1, h2, (hb.block g (Array.getElem?_eq_some_iff.1 h3).1).trans h3, h4⟩
theorem OB.base {w : World} {b b' : Nat} {v : Value} {l : List Nat} (h : OB w b v l) (hb : b' ≤ b) : OB w b' v l := by
  refine ⟨⟨h.1.1, ?_⟩, h.2⟩
  rcases h.1.2 with h1 | ⟨g, cap, cur, h1, h2, h3⟩
  · exact .inl h1
  · exact .inr ⟨g, cap, cur, h1, Nat.le_trans hb h2, h3⟩
theorem OB.nil (w : World) (base : Nat) : OB w base (.slice none 0 0) [] := ⟨⟨rfl, .inl ⟨rfl, rfl⟩⟩, fun c h => by cases h⟩
theorem OB.made (w : World) (base : Nat) (n : Nat) (hn : n = w.heap.size) (hB : base ≤ n) : OB (w.alloc (.cells #[] 5)) base (.slice (some ⟨n, 0, none⟩) 0 0) [] := by
  subst hn
  exact ⟨World.ownsRow_made w #[] 0 hB (by unfold maxLen; omega) rfl, fun c h => by cases h⟩
theorem infoB : (Try.prog.info? 5).map (fun i => (i.zero, i.size, i.bytes)) = some (some (.int .u8 0), 1, 1) := by kernel_rfl
theorem below_of_grown {w w' : World} {base : Nat} {v : Value} {l : List Nat} (ho : OB w base v l) (hb : base ≤ w.heap.size) (hg : w.grownBy w' v.ownBlock) : Below base w w' :=
  (Below.refl base w).grown hg hb (fun k hk => by
    rcases ho.1.2 with ⟨rfl, _⟩ | ⟨g, cap, cur, rfl, h2, _⟩
    · cases hk
    · cases hk; exact h2)
section
variable {P : Program}
/-- 'append(b, s...)' at bytes, onto a slice of the call's own. -/
theorem wpList_appb {ops : Array Oper} {rest : List Oper} {o : Oper} {a : Act} {Q : Exit → Act → World → Prop} (w : World) (hgd : o.guard = none) (s x : Operand)
    (ho : o.op = .call { callee := .builtin .append, args := #[s, x], argTypes := #[141, 141] })
    (base : Nat) (v : Value) (l : List Nat) (hs : a.eval s = v) (hown : OB w base v l) (ad : Option Addr) (m c : Nat) (l2 : List Nat) (hx : a.eval x = .slice ad m c) (hr : Bytes w ad m l2)
    (h63 : l.length + m ≤ 1000000) (hbase : base ≤ w.heap.size)
    (h : ∀ v' w', OB w' base v' (l ++ l2) → Below base w w' → w.grownBy w' v.ownBlock → wpList Try.prog ops Q rest (a.put o.dst v') w') : wpList Try.prog ops Q (o :: rest) a w := by
  obtain ⟨i0, hi, hz0, hz1, hz2⟩ := info_parts infoB
  refine wpList_app w hgd s x 141 ho base 5 i0 (.int .u8 0) 1 1 Try.underlying141 hi hz0 hz1 hz2 rfl (by decide) v l.length (u8s l) hs hown.1 ad m c (u8s l2) hx (rds_of_bytes hr) (u8s_one _) (by unfold maxLen; omega) (by omega) hbase ?_
  intro v' w' h1 h2 _
  refine h v' w' ⟨by rw [u8s_append, List.length_append, hr.1]; exact h1, fun c hc => ?_⟩ (below_of_grown hown hbase h2) h2
  rcases List.mem_append.1 hc with h3 | h3
  · exact hown.2 c h3
  · exact hr.2.1 c h3
end
set_option maxRecDepth 100000 in
set_option maxHeartbeats 1000000 in
theorem clone_any (a : Option Addr) (n c : Nat) (l : List Nat) (w : World) (hb : Bytes w a n l) (hn : n ≤ 100000) :
    Calls Try.prog 77 #[.slice a n c] w fun e w' => ∃ v, e = .returned v ∧ OB w' w.heap.size v l ∧ Below w.heap.size w w' := by
  have HB := Lib.hid hb
  have hl := hb.1
  have heq := fun (w : World) (a : Option Addr) (n c : Nat) => Lib.run_eql_slice_nil (P := Try.prog) w 141 5 a n c 0 0 Try.underlying141
  cases a with
  | none =>
    have h0 : l = [] := by
      rcases Nat.eq_zero_or_pos n with h | h
      · exact List.eq_nil_of_length_eq_zero (by omega)
      · obtain ⟨b, o, h1, _⟩ := hb.2.2 h; cases h1
    subst h0
    clear hb hl
    go_enter Try.func77, Try.ntmps77
    go_wp2_with fail
    go_ret
    exact ⟨_, rfl, OB.nil _ _, Below.refl _ _⟩
  | some ad =>
    clear hb
    have Hl := Lib.hid hl
    clear hl
    go_enter Try.func77, Try.ntmps77
    go_wp2_with (at_builtin; refine wpList_appb _ rfl _ _ rfl w.heap.size _ [] rfl (OB.made _ _ _ rfl (Nat.le_refl _)) (some ad) n c l rfl (HB.out.below ((Below.refl _ _).alloc (Nat.le_refl _) _)) (by simp; omega) (by simp) ?_; intro v' w1 ho hb1 _)
    go_ret
    exact ⟨_, rfl, ho, (((Below.refl _ _).alloc (Nat.le_refl _) _).trans hb1)⟩
theorem OB.set {w : World} {base g n c : Nat} {l : List Nat} (h : OB w base (.slice (some ⟨g, 0, none⟩) n c) l) (i x : Nat) (_ : i < l.length) (hx : x < 256) :
    OB (w.setCell ⟨g, i, none⟩ (.int .u8 x)) base (.slice (some ⟨g, 0, none⟩) n c) (l.set i x) := by
  obtain ⟨⟨h1, h2⟩, h3⟩ := h
  rcases h2 with ⟨h0, _⟩ | ⟨g', cap, cur, h0, h4, h5, h6, h7, h8, h9⟩
  · cases h0
  · cases h0
    refine ⟨⟨by rw [u8s_length, List.length_set, Nat.mul_one], .inr ⟨g, c, cur.setIfInBounds i (.int .u8 x), by rw [List.length_set], h4, heap_setCell_same w g i cur _ _ h5, by rw [List.length_set]; exact h6, h7, by rw [Array.size_setIfInBounds]; exact h8, ?_⟩⟩, fun d hd => ?_⟩
    · rw [Array.toList_setIfInBounds, List.length_set, List.take_set, h9]
      unfold u8s
      rw [List.map_set]
    · rcases List.mem_or_eq_of_mem_set hd with h | h
      · exact h3 d h
      · omega
theorem size_any (w : World) : Calls Try.prog 78 #[] w fun e w' => e = .returned (.int .i64 2) ∧ w = w' := by
  have hx : bits .xor .u16 IntKind.u16.max 0 = 65535 := by decide
  go_enter Try.func78, Try.ntmps78
  go_wp2
  go_loop [0, 1] (fun n v => (n = .int .i64 0 ∧ v = .int .u16 65535) ∨ (n = .int .i64 1 ∧ v = .int .u16 255) ∨ (n = .int .i64 2 ∧ v = .int .u16 0)) (fun n _ => 2 - (intOf n).toNat)
  case atStart => exact .inl ⟨rfl, rfl⟩
  case round =>
    rcases hrel with ⟨rfl, rfl⟩ | ⟨rfl, rfl⟩ | ⟨rfl, rfl⟩
    · go_wp2
      go_round
      case rel => exact .inr (.inl ⟨by simp, by simp⟩)
      case measure => simp [intOf]
    · go_wp2
      go_round
      case rel => exact .inr (.inr ⟨by simp, by simp⟩)
      case measure => simp [intOf]
    · go_wp2
      go_ret
      exact ⟨rfl, rfl⟩
theorem has_yes (a : Option Addr) (n c : Nat) (i k : Int) (w : World) (h0 : 0 ≤ i) (h1 : i ≤ n) (h2 : k ≤ n - i) (_ : n ≤ 1000000) :
    Calls Try.prog 80 #[.slice a n c, .int .i64 i, .int .i64 k] w fun e w' => e = .returned (.bool true) ∧ w = w' := by
  go_enter Try.func80, Try.ntmps80
  go_wp2
  go_ret
  exact ⟨rfl, rfl⟩
theorem put_any (base g n c : Nat) (l : List Nat) (i x : Nat) (w : World) (h : OB w base (.slice (some ⟨g, 0, none⟩) n c) l) (hi : i + 2 ≤ l.length) (hx : x < 65536) (hl : l.length ≤ 1000000) :
    Calls Try.prog 79 #[.slice (some ⟨g, 0, none⟩) n c, .int .i64 i, .int .u16 x] w fun e w' => e = .returned (.bool true) ∧ OB w' base (.slice (some ⟨g, 0, none⟩) n c) ((l.set (i + 1) (x % 256)).set i (x / 256)) ∧ Mod (fun b => b = g) w w' := by
  have hn : n = l.length := by
    rcases h.1.2 with ⟨h0, _⟩ | ⟨g', cap, cur, h0, _⟩
    · cases h0
    · cases h0; rfl
  subst hn
  have H0 := Lib.hid h
  have H1 := Lib.hid (h.set (i + 1) (x % 256) (by omega) (by omega))
  have H2 := Lib.hid (H1.out.set i (x / 256) (by simp; omega) (by omega))
  have hc : ∀ j, j < l.length → ∃ v, w.cell? ⟨g, j, none⟩ = some v := fun j hj => by
    obtain ⟨a, cc, he, hb, _⟩ := h.bytes
    cases he
    obtain ⟨b, o, he, _, hcell⟩ := hb.2.2 (by omega)
    cases he
    exact ⟨_, by have := hcell j hj; rwa [Nat.zero_add] at this⟩
  have hf : ∀ j, w.frozen? ⟨g, j, none⟩ = false := fun j => by
    rcases h.1.2 with ⟨h0, _⟩ | ⟨g', cap, cur, h0, _, h5, _⟩
    · cases h0
    · cases h0; exact frozen_of_row w g j cur _ h5
  have f1 := hf (i + 1)
  have f0 := hf i
  clear hf
  obtain ⟨v1, c1⟩ := hc (i + 1) (by omega)
  obtain ⟨v0, c0⟩ := hc i (by omega)
  clear h hc
  go_enter Try.func79, Try.ntmps79
  go_wp2_with fail
  refine (size_any _).mono ?_
  rintro e w1 ⟨rfl, rfl⟩
  go_wp2_with fail
  refine (has_yes _ _ _ _ _ _ (by omega) (by omega) (by omega) hl).mono ?_
  rintro e w1 ⟨rfl, rfl⟩
  go_wp2_with fail
  go_loopw [8, 9] (fun y j wr => (y = .int .u64 x ∧ j = .int .i64 1 ∧ wr = w) ∨ (y = .int .u64 ((x / 256 : Nat) : Int) ∧ j = .int .i64 0 ∧ wr = w.setCell ⟨g, i + 1, none⟩ (.int .u8 (x % 256 : Nat)))
    ∨ (j = .int .i64 (-1) ∧ wr = (w.setCell ⟨g, i + 1, none⟩ (.int .u8 (x % 256 : Nat))).setCell ⟨g, i, none⟩ (.int .u8 (x / 256 : Nat)))) (fun _ j _ => (intOf j + 1).toNat)
  case atStart => exact .inl ⟨rfl, rfl, rfl⟩
  case round =>
    rcases hrel with ⟨rfl, rfl, rfl⟩ | ⟨rfl, rfl, rfl⟩ | ⟨rfl, rfl⟩
    · go_wp2
      go_roundw
      case rel => exact .inr (.inl ⟨by simp, by simp, by simp⟩)
      case measure => simp [intOf]
    · have hx2 : ((x / 256 : Nat) : Int) % 256 = ((x / 256 : Nat) : Int) := by omega
      go_wp2
      go_roundw
      case rel => exact .inr (.inr ⟨by simp, by simp⟩)
      case measure => simp [intOf]
    · go_wp2
      go_ret
      exact ⟨rfl, H2.out, ((Mod.refl (fun b => b = g) w).setCell ⟨g, i + 1, none⟩ _ (fun _ => rfl)).setCell ⟨g, i, none⟩ _ (fun _ => rfl)⟩
def zbytes (n : Nat) : ByteArray := ⟨Array.replicate n 0⟩
theorem zbytes_size (n : Nat) : (zbytes n).size = n := by simp [zbytes, ByteArray.size]
theorem zbytes_cells (n : Nat) : Builtin.zeroCells #[.int .u8 0] n = (((zbytes n).extract 0 n).data.map fun b => Value.int .u8 b.toNat) := by
  apply Array.ext
  · simp [Builtin.zeroCells, zbytes]
  · intro i h1 h2
    have h3 : i % 1 = 0 := Nat.mod_one i
    simp [Builtin.zeroCells, zbytes, h3]
theorem zeroB (w : World) : (zeroValue 5).run Try.prog w = .ok (.int .u8 0) w := by kernel_rfl
/-- 'append(b, make([]byte, n)...)': as a string of noughts. -/
theorem run_append_zeros (w : World) (ty : TypeId) (b : Option Addr) (sl sc : Nat) (n : Nat) (hn : sl + n ≤ 1000000) :
    (Builtin.append_ #[141, 3] ty #[.slice b sl sc, .int .i64 n]).run Try.prog w = (Builtin.append_ #[141, 9] ty #[.slice b sl sc, .string (zbytes n)]).run Try.prog w := by
  obtain ⟨i0, hi, hz0, hz1, hz2⟩ := info_parts infoB
  have hw : IntKind.i64.wrap (n : Int) = (n : Int) := by rw [IntKind.wrap_i64]; omega
  have h1 : ¬ ((n : Int) < 0) := by omega
  have h2 : ¬ (281474976710656 < (n : Int)) := by omega
  have hz := zbytes_cells n
  unfold Builtin.append_
  simp [run_underlying Try.underlying141, run_underlying Try.underlying3, run_underlying Try.underlying9, sizeOf, typeInfo, hi, hz1, hz2, hw, h1, h2, Builtin.lenOf, zbytes_size, Builtin.firstCells, asInt, asIntOf, Value.cells]
  have h63 : ¬ (9223372036854775807 < (sl : Int) + (n : Int)) := by omega
  have hz' : (Builtin.zeroCells #[Value.int .u8 0] n).toList = List.take n (List.map (fun b => Value.int .u8 b.toNat) (zbytes n).data.toList) := by rw [hz]; simp
  by_cases hr : sl + n ≤ sc
  · simp only [hr, if_true]
    by_cases hp : n = 0
    · subst hp; simp
    · simp only [hp, if_false, hz']
  · have h48 : ¬ (281474976710656 < Builtin.nextslicecap (sl + n) sc) := by
      have := nextslicecap_le_wide (need := sl + n) (old := sc) (by omega)
      omega
    simp only [hr, if_false, h63, h48]
    by_cases hp : n = 0
    · subst hp; simp
    · simp only [hp, if_false]
      rw [hz]
      simp
theorem zcells (n : Nat) : Lib.strCells (zbytes n) = u8s (List.replicate n 0) := by
  simp [Lib.strCells, zbytes, u8s]
/-- 'append(b, make([]byte, n)...)' onto a slice of the call's own. -/
theorem wpList_zerob {ops : Array Oper} {rest : List Oper} {o : Oper} {a : Act} {Q : Exit → Act → World → Prop} (w : World) (hgd : o.guard = none) (s x : Operand)
    (ho : o.op = .call { callee := .builtin .append, args := #[s, x], argTypes := #[141, 3] })
    (base : Nat) (v : Value) (l : List Nat) (hs : a.eval s = v) (hown : OB w base v l) (n : Nat) (hx : a.eval x = .int .i64 n)
    (h63 : l.length + n ≤ 1000000) (hbase : base ≤ w.heap.size)
    (h : ∀ v' w', OB w' base v' (l ++ List.replicate n 0) → Below base w w' → w.grownBy w' v.ownBlock → wpList Try.prog ops Q rest (a.put o.dst v') w') : wpList Try.prog ops Q (o :: rest) a w := by
  obtain ⟨i0, hi, hz0, hz1, hz2⟩ := info_parts infoB
  obtain ⟨v', w', hr, h1, h2, _⟩ := Lib.run_append_own_string (P := Try.prog) w base 141 9 o.type 5 i0 Try.underlying141 Try.underlying9 hi hz0 hz1 hz2 v l.length (u8s l) hown.1 (zbytes n) (by rw [zbytes_size]; unfold maxLen; omega) (by rw [zbytes_size]; omega) hbase
  have hsl : ∃ b sc, v = .slice b l.length sc := by
    obtain ⟨b, c, hv, _⟩ := hown.bytes
    exact ⟨b, c, hv⟩
  obtain ⟨b, sc, rfl⟩ := hsl
  rw [← run_append_zeros w o.type b l.length sc n h63] at hr
  refine wpList_plain hgd fun K hK => ?_
  unfold Oper.wp execOp
  simp only [ho, resolve, invoke, builtin, Sem.run_bind, Sem.run_pure, Result.andThen_ok, List.map_toArray, List.map_cons, List.map_nil, hs, hx, hr]
  refine hK _ _ (h v' w' ⟨?_, fun c hc => ?_⟩ (below_of_grown hown hbase h2) h2)
  · rw [zbytes_size, zcells] at h1
    rw [u8s_append, List.length_append, List.length_replicate]
    exact h1
  · rcases List.mem_append.1 hc with h3 | h3
    · exact hown.2 c h3
    · have := List.eq_of_mem_replicate h3; omega
set_option maxRecDepth 100000 in
set_option maxHeartbeats 1000000 in
theorem append_any (a : Option Addr) (n c : Nat) (l : List Nat) (x : Nat) (w : World) (hb : Bytes w a n l) (hn : n ≤ 100000) (hx : x < 65536) :
    Calls Try.prog 75 #[.slice a n c, .int .u16 x] w fun e w' => ∃ v, e = .returned v ∧ OB w' w.heap.size v (l ++ [x / 256, x % 256]) ∧ Below w.heap.size w w' := by
  have HB := Lib.hid hb
  have Hl := Lib.hid hb.1
  clear hb
  go_enter Try.func75, Try.ntmps75
  go_wp2_with fail
  refine (clone_any a n c l w HB.out hn).mono ?_
  rintro e w1 ⟨v, rfl, ho1, hb1⟩
  have HO1 := Lib.hid ho1
  have HB1 := Lib.hid hb1
  have Hv : Hid (∃ b sc, v = .slice b l.length sc) := by obtain ⟨b, c, hv, _⟩ := ho1.bytes; exact Lib.hid ⟨b, c, hv⟩
  clear ho1 hb1
  go_wp2_with fail
  refine (size_any _).mono ?_
  rintro e w2 ⟨rfl, rfl⟩
  go_wp2_with (at_builtin; refine wpList_zerob _ rfl _ _ rfl w.heap.size _ l rfl HO1.out 2 rfl (by have := Hl.out; omega) HB1.out.size ?_; intro v' w3 ho3 hb3 _; obtain ⟨g3, sc3, rfl⟩ : ∃ g c, v' = .slice (some ⟨g, 0, none⟩) (l.length + 2) c := ob_some ho3 (by simp))
  have HO3 := Lib.hid ho3
  have HB3 := Lib.hid hb3
  clear ho3 hb3
  refine (put_any w.heap.size g3 (l.length + 2) sc3 (l ++ List.replicate 2 0) n x w3 HO3.out (by simp; have := Hl.out; omega) hx (by simp; have := Hl.out; omega)).mono ?_
  rintro e w4 ⟨rfl, ho4, hm4⟩
  have hset : ((l ++ List.replicate 2 0).set (n + 1) (x % 256)).set n (x / 256) = l ++ [x / 256, x % 256] := by
    rw [← Hl.out]
    simp [List.set_append_right, List.replicate]
  rw [hset] at ho4
  have HO4 := Lib.hid ho4
  have hg3 : w.heap.size ≤ g3 := by
    rcases HO3.out.1.2 with ⟨h0, _⟩ | ⟨g', cap, cur, h0, h4, _⟩
    · cases h0
    · simp only [Value.slice.injEq, Option.some.injEq, Addr.mk.injEq] at h0
      obtain ⟨⟨rfl, _⟩, _⟩ := h0
      exact h4
  have HB4 := Lib.hid ((HB1.out.trans HB3.out).trans (show Below w.heap.size w3 w4 from ⟨hm4.os, hm4.tape, hm4.output, hm4.size, fun k hk => by
    rcases Nat.lt_or_ge k w3.heap.size with h | h
    · exact hm4.block k h (by omega)
    · have := (HB1.out.trans HB3.out).size; omega⟩))
  clear ho4 hm4 hset
  go_wp2_with fail
  go_ret
  exact ⟨_, rfl, HO4.out, HB4.out⟩
theorem OB.cut0 {w : World} {base g n c : Nat} {l : List Nat} (h : OB w base (.slice (some ⟨g, 0, none⟩) n c) l) : OB w base (.slice (some ⟨g, 0, none⟩) 0 c) [] := by
  obtain ⟨⟨h1, h2⟩, h3⟩ := h
  rcases h2 with ⟨h0, _⟩ | ⟨g', cap, cur, h0, h4, h5, h6, h7, h8, h9⟩
  · cases h0
  · simp only [Value.slice.injEq, Option.some.injEq, Addr.mk.injEq] at h0
    obtain ⟨⟨rfl, _⟩, _, rfl⟩ := h0
    exact ⟨⟨rfl, .inr ⟨g, c, cur, rfl, h4, h5, by simp, h7, h8, by simp [u8s]⟩⟩, fun _ h => by cases h⟩
theorem OB.cap {w : World} {base g n c : Nat} {l : List Nat} (h : OB w base (.slice (some ⟨g, 0, none⟩) n c) l) : n ≤ c ∧ n = l.length ∧ base ≤ g := by
  rcases h.1.2 with ⟨h0, _⟩ | ⟨g', cap, cur, h0, h4, h5, h6, h7⟩
  · cases h0
  · simp only [Value.slice.injEq, Option.some.injEq, Addr.mk.injEq] at h0
    obtain ⟨⟨rfl, _⟩, rfl, rfl⟩ := h0
    exact ⟨h6, rfl, h4⟩
set_option maxRecDepth 100000 in
set_option maxHeartbeats 1000000 in
theorem grow_any (n : Nat) (w : World) (h0 : 0 < n) (hn : n ≤ 100000) :
    Calls Try.prog 76 #[.slice none 0 0, .int .i64 n] w fun e w' => ∃ g c, e = .returned (.slice (some ⟨g, 0, none⟩) 0 c) ∧ OB w' w.heap.size (.slice (some ⟨g, 0, none⟩) 0 c) [] ∧ Below w.heap.size w w' := by
  go_enter Try.func76, Try.ntmps76
  go_wp2_with (at_builtin; refine wpList_zerob _ rfl _ _ rfl w.heap.size _ [] rfl (OB.nil _ _) n rfl (by simp; omega) (Nat.le_refl _) ?_; intro v' w3 ho3 hb3 _; obtain ⟨g3, sc3, rfl⟩ : ∃ g c, v' = .slice (some ⟨g, 0, none⟩) n c := ob_some ho3 (by simp; omega))
  go_ret
  exact ⟨g3, sc3, rfl, ho3.cut0, hb3⟩
/-- A part of what is put together: where it lies, its capacity, its bytes. -/
abbrev Piece := Option Addr × Nat × List Nat
def Piece.val (p : Piece) : Value := .slice p.1 p.2.2.length p.2.1
def glue (xs : List Piece) : List Nat := xs.flatMap (·.2.2)
theorem glue_take (xs : List Piece) (k : Nat) (p : Piece) (h : xs[k]? = some p) : glue (xs.take (k + 1)) = glue (xs.take k) ++ p.2.2 := by
  unfold glue
  rw [List.take_add_one, h]
  simp
theorem glue_le (xs : List Piece) (k : Nat) : (glue (xs.take k)).length ≤ (glue xs).length := by
  have : xs = xs.take k ++ xs.drop k := (List.take_append_drop k xs).symm
  have h : glue xs = glue (xs.take k) ++ glue (xs.drop k) := by unfold glue; rw [← List.flatMap_append, List.take_append_drop]
  rw [h, List.length_append]; omega
set_option maxRecDepth 100000 in
set_option maxHeartbeats 2000000 in
theorem concat_any (g : Nat) (xs : List Piece) (w : World) (hg : g < w.heap.size) (hx : ∀ (j : Nat) (p : Piece), xs[j]? = some p → w.cell? ⟨g, j, none⟩ = some p.val ∧ Bytes w p.1 p.2.2.length p.2.2) (h0 : 0 < (glue xs).length) (hn : (glue xs).length ≤ 10000) (hk : xs.length ≤ 100) :
    Calls Try.prog 73 #[.slice (some ⟨g, 0, none⟩) xs.length xs.length] w fun e w' => ∃ v, e = .returned v ∧ OB w' w.heap.size v (glue xs) ∧ Below w.heap.size w w' := by
  have HX := Lib.hid hx
  clear hx
  go_enter Try.func73, Try.ntmps73
  go_wp2_with fail
  go_loopw [3, 5, 11] (fun n _ i wr => ∃ k : Nat, k ≤ xs.length ∧ i = .int .i64 k ∧ n = .int .i64 (glue (xs.take k)).length ∧ wr = w) (fun _ _ i _ => xs.length - (intOf i).toNat)
  case atStart => exact ⟨0, Nat.zero_le _, rfl, rfl, rfl⟩
  case round =>
    obtain ⟨k, hkk, rfl, rfl, rfl⟩ := hrel
    by_cases hlt : k < xs.length
    · obtain ⟨p, hp⟩ : ∃ p, xs[k]? = some p := ⟨_, List.getElem?_eq_getElem hlt⟩
      obtain ⟨hc, hb⟩ := HX.out k p hp
      have hgt := glue_take xs k p hp
      have hle := glue_le xs (k + 1)
      have HS := Lib.hid (congrArg List.length hgt)
      have hle2 : (glue (xs.take k)).length + p.2.2.length ≤ 10000 := by have := HS.out; rw [List.length_append] at this; omega
      clear hgt hb hle
      unfold Piece.val at hc
      go_wp2_with fail
      go_roundw
      case rel => exact ⟨k + 1, by omega, by go_num, by rw [HS.out, List.length_append]; go_num, trivial⟩
      case measure => simp [intOf]; omega
    · obtain rfl : k = xs.length := by omega
      rw [List.take_length]
      obtain ⟨wo, rfl⟩ : ∃ wo : World, wo = wr := ⟨_, rfl⟩
      go_wp2_with fail
      refine (grow_any (glue xs).length wo h0 (by omega)).mono ?_
      rintro e w1 ⟨g1, c1, rfl, ho1, hb1⟩
      have HO1 := Lib.hid ho1
      have HB1 := Lib.hid hb1
      clear ho1 hb1
      go_wp2_with fail
      go_loopw [6, 8, 27] (fun v _ i ws => ∃ k : Nat, k ≤ xs.length ∧ i = .int .i64 k ∧ OB ws wo.heap.size v (glue (xs.take k)) ∧ Below wo.heap.size wo ws) (fun _ _ i _ => xs.length - (intOf i).toNat)
      case atStart => exact ⟨0, Nat.zero_le _, rfl, HO1.out, HB1.out⟩
      case round =>
        obtain ⟨k, hkk2, rfl, ho2, hb2⟩ := hrel
        have HO2 := Lib.hid ho2
        have HB2 := Lib.hid hb2
        clear ho2 hb2
        by_cases hlt2 : k < xs.length
        · obtain ⟨p, hp⟩ : ∃ p, xs[k]? = some p := ⟨_, List.getElem?_eq_getElem hlt2⟩
          obtain ⟨hc, hb⟩ := HX.out k p hp
          have hgt := glue_take xs k p hp
          have hle := glue_le xs (k + 1)
          have HS := Lib.hid hgt
          have hle2 : (glue (xs.take k)).length + p.2.2.length ≤ 10000 := by have := congrArg List.length HS.out; rw [List.length_append] at this; omega
          have hc2 := (HB2.out.cell (p := ⟨g, k, none⟩) hg).trans hc
          have HBy := Lib.hid (hb.below HB2.out)
          clear hgt hb hle hc
          unfold Piece.val at hc2
          go_wp2_with (at_builtin; refine wpList_appb _ rfl _ _ rfl wo.heap.size _ (glue (xs.take k)) rfl HO2.out p.1 p.2.2.length p.2.1 p.2.2 rfl HBy.out (by omega) HB2.out.size ?_; intro v' w3 ho3 hb3 _)
          go_roundw
          case rel => exact ⟨k + 1, by omega, by go_num, by rw [HS.out]; exact ho3, HB2.out.trans hb3⟩
          case measure => simp [intOf]; omega
        · obtain rfl : k = xs.length := by omega
          have HO3 := Lib.hid (show OB wr wo.heap.size u6 (glue xs) by have := HO2.out; rwa [List.take_length] at this)
          go_wp2_with fail
          go_ret
          exact ⟨_, rfl, HO3.out, HB2.out⟩
end Go.Proofs.Ytgjecemmejaieaa
