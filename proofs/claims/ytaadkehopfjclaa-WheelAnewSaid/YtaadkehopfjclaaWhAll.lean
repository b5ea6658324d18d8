/-
  The wheel's methods, one contract each, for keys that are ints and keys that are strings.
-/
import Derived.Test.YtaadkehopfjclaaWhTick
import Derived.WalkSpells
import Derived.WalkLawsBesides
import Derived.Lib.Hide
import Derived.Laws.MakeOwn
import Derived.OwnWalk
import Derived.Shelf.Abstract
namespace Go.Proofs.Ytaadkehopfjclaa
open Go.RowKit Go.MapKept Go.Shelf

namespace Wi
/-- A wheel, seen from without. -/
def Wx (w : World) (B : Nat) (F : Nat → Prop) (p n : Nat) (P : List D) (now seq : Nat) : Prop := ∃ t m vs, Wh w B F p t m n vs P now seq
/-- All blocks that are a wheel's own behind a step were its own, or are new. -/
def Gr (w : World) (F F' : Nat → Prop) : Prop := ∀ g, F' g → F g ∨ w.heap.size ≤ g
/-- A slice of keys that is no wheel's. -/
def Rs (w : World) (F : Nat → Prop) (B : Nat) (v : Value) (L : List K) : Prop := Sl 1 keyL 3 w B v L ∧ ∀ g, v.ownBlock = some g → ¬ F g
variable {w w' : World} {B C : Nat} {F F' : Nat → Prop} {p n : Nat} {P : List D} {now seq : Nat} {v : Value} {L : List K}
theorem Wx.below (h : Wx w B F p n P now seq) (hb : Below w.heap.size w w') : Wx w' B F p n P now seq := by
  obtain ⟨t, m, vs, h⟩ := h
  exact ⟨t, m, vs, h.below hb⟩
theorem Wx.mod {M : Nat → Prop} (h : Wx w B F p n P now seq) (hm : Mod M w w') (hM : ∀ g, F g → ¬ M g) : Wx w' B F p n P now seq := by
  obtain ⟨t, m, vs, h⟩ := h
  exact ⟨t, m, vs, h.mod hm hM⟩
theorem Wx.fb (h : Wx w B F p n P now seq) : ∀ g, F g → B ≤ g ∧ g < w.heap.size := by
  obtain ⟨t, m, vs, h⟩ := h
  exact h.fb
theorem Wx.lt (h : Wx w B F p n P now seq) : B ≤ w.heap.size := by
  obtain ⟨t, m, vs, h⟩ := h
  have := h.fb p h.fp
  omega
theorem Rs.step (h : Rs w F C v L) (hm : Mod F w w') (hF : Gr w F F') : Rs w' F' C v L :=
  ⟨h.1.mod hm h.2, fun g hg hf => (hF g hf).elim (h.2 g hg) (fun h2 => by have := (h.1.ge hg).2; omega)⟩
theorem Rs.below (h : Rs w F C v L) (hb : Below w.heap.size w w') : Rs w' F C v L := ⟨h.1.below hb, h.2⟩
theorem new_wx (n : Nat) (h1 : 1 ≤ n) (h2 : n ≤ 4096) (w : World) :
    Calls Try.prog 7 #[.int .i64 n] w fun e w' => Below w.heap.size w w' ∧ ∃ p F, e = .returned (.tuple #[.pointer (some ⟨p, 0, none⟩), .int .i64 0]) ∧ Wx w' w.heap.size F p n [] 0 0 :=
  (new_ok n h1 h2 w).mono fun _ _ ⟨hb, p, t, m, F, vs, he, h⟩ => ⟨hb, p, F, he, t, m, vs, h⟩
theorem len_wx (h : Wx w B F p n P now seq) :
    Calls Try.prog 11 #[.pointer (some ⟨p, 0, none⟩)] w fun e w' => e = .returned (.int .i64 (P.length : Nat)) ∧ w' = w := by
  obtain ⟨t, m, vs, h⟩ := h
  exact len_any h
theorem set_bad (k : K) (a : Int) (h : Wx w B F p n P now seq) (ha : ¬ ((now : Int) < a ∧ a ≤ 1099511627776)) :
    Calls Try.prog 8 #[.pointer (some ⟨p, 0, none⟩), .int .i64 (k), .int .i64 a] w fun e w' => e = .returned (.int .i64 1) ∧ w' = w := by
  obtain ⟨t, m, vs, h⟩ := h
  exact set_no k a h ha
theorem set_wx (k : K) (a : Nat) (h : Wx w B F p n P now seq) (ha : now < a) (ha2 : a ≤ 1099511627776) (hseq : seq ≤ 1152921504606846976) (hbig : P.length ≤ 1048576) :
    Calls Try.prog 8 #[.pointer (some ⟨p, 0, none⟩), .int .i64 (k), .int .i64 (a : Nat)] w fun e w' =>
      e = .returned (.int .i64 0) ∧ (∃ F', Wx w' B F' p n (P.filter (fun y => decide (y.k ≠ k)) ++ [⟨k, a, seq + 1⟩]) now (seq + 1) ∧ Gr w F F') ∧ Mod F w w' := by
  obtain ⟨t, m, vs, h⟩ := h
  exact (set_any k a h ha ha2 hseq hbig).mono fun _ _ ⟨he, ⟨F', vs', h1, h2⟩, h3⟩ => ⟨he, ⟨F', ⟨t, m, vs', h1⟩, h2⟩, h3⟩
theorem drop_wx (k : K) (h : Wx w B F p n P now seq) (hbig : P.length ≤ 1048576) :
    Calls Try.prog 13 #[.pointer (some ⟨p, 0, none⟩), .int .i64 (k)] w fun e w' =>
      e = .returned (.bool (P.any fun y => decide (y.k = k))) ∧ Wx w' B F p n (P.filter fun y => decide (y.k ≠ k)) now seq ∧ Mod F w w' := by
  obtain ⟨t, m, vs, h⟩ := h
  exact (drop_any k h (by omega)).mono fun _ _ ⟨he, ⟨vs', h1⟩, h3⟩ => ⟨he, ⟨t, m, vs', h1⟩, h3⟩
theorem tick_wx (h : Wx w B F p n P now seq) (hnow : now ≤ 1152921504606846976) (hbig : P.length ≤ 1048576) :
    Calls Try.prog 10 #[.pointer (some ⟨p, 0, none⟩)] w fun e w' =>
      (∃ F' out, e = .returned out ∧ Wx w' B F' p n (P.filter fun y => decide (y.t ≠ now + 1)) (now + 1) seq ∧ Gr w F F' ∧ Rs w' F' w.heap.size out ((P.filter fun y => decide (y.t = now + 1)).map (·.k))) ∧ Mod F w w' := by
  obtain ⟨t, m, vs, h⟩ := h
  exact (tick_any h hnow hbig).mono fun _ _ ⟨out, he, F', vs', h1, h2, h3, h4, h5⟩ => ⟨⟨F', out, he, ⟨t, m, vs', h1⟩, h4, h2, h3⟩, h5⟩
end Wi

namespace Ws
/-- A wheel, seen from without. -/
def Wx (w : World) (B : Nat) (F : Nat → Prop) (p n : Nat) (P : List D) (now seq : Nat) : Prop := ∃ t m vs, Wh w B F p t m n vs P now seq
/-- All blocks that are a wheel's own behind a step were its own, or are new. -/
def Gr (w : World) (F F' : Nat → Prop) : Prop := ∀ g, F' g → F g ∨ w.heap.size ≤ g
/-- A slice of keys that is no wheel's. -/
def Rs (w : World) (F : Nat → Prop) (B : Nat) (v : Value) (L : List K) : Prop := Sl 1 keyL 9 w B v L ∧ ∀ g, v.ownBlock = some g → ¬ F g
variable {w w' : World} {B C : Nat} {F F' : Nat → Prop} {p n : Nat} {P : List D} {now seq : Nat} {v : Value} {L : List K}
theorem Wx.below (h : Wx w B F p n P now seq) (hb : Below w.heap.size w w') : Wx w' B F p n P now seq := by
  obtain ⟨t, m, vs, h⟩ := h
  exact ⟨t, m, vs, h.below hb⟩
theorem Wx.mod {M : Nat → Prop} (h : Wx w B F p n P now seq) (hm : Mod M w w') (hM : ∀ g, F g → ¬ M g) : Wx w' B F p n P now seq := by
  obtain ⟨t, m, vs, h⟩ := h
  exact ⟨t, m, vs, h.mod hm hM⟩
theorem Wx.fb (h : Wx w B F p n P now seq) : ∀ g, F g → B ≤ g ∧ g < w.heap.size := by
  obtain ⟨t, m, vs, h⟩ := h
  exact h.fb
theorem Wx.lt (h : Wx w B F p n P now seq) : B ≤ w.heap.size := by
  obtain ⟨t, m, vs, h⟩ := h
  have := h.fb p h.fp
  omega
theorem Rs.step (h : Rs w F C v L) (hm : Mod F w w') (hF : Gr w F F') : Rs w' F' C v L :=
  ⟨h.1.mod hm h.2, fun g hg hf => (hF g hf).elim (h.2 g hg) (fun h2 => by have := (h.1.ge hg).2; omega)⟩
theorem Rs.below (h : Rs w F C v L) (hb : Below w.heap.size w w') : Rs w' F C v L := ⟨h.1.below hb, h.2⟩
theorem new_wx (n : Nat) (h1 : 1 ≤ n) (h2 : n ≤ 4096) (w : World) :
    Calls Try.prog 15 #[.int .i64 n] w fun e w' => Below w.heap.size w w' ∧ ∃ p F, e = .returned (.tuple #[.pointer (some ⟨p, 0, none⟩), .int .i64 0]) ∧ Wx w' w.heap.size F p n [] 0 0 :=
  (new_ok n h1 h2 w).mono fun _ _ ⟨hb, p, t, m, F, vs, he, h⟩ => ⟨hb, p, F, he, t, m, vs, h⟩
theorem len_wx (h : Wx w B F p n P now seq) :
    Calls Try.prog 19 #[.pointer (some ⟨p, 0, none⟩)] w fun e w' => e = .returned (.int .i64 (P.length : Nat)) ∧ w' = w := by
  obtain ⟨t, m, vs, h⟩ := h
  exact len_any h
theorem set_bad (k : K) (a : Int) (h : Wx w B F p n P now seq) (ha : ¬ ((now : Int) < a ∧ a ≤ 1099511627776)) :
    Calls Try.prog 16 #[.pointer (some ⟨p, 0, none⟩), .string (k), .int .i64 a] w fun e w' => e = .returned (.int .i64 1) ∧ w' = w := by
  obtain ⟨t, m, vs, h⟩ := h
  exact set_no k a h ha
theorem set_wx (k : K) (a : Nat) (h : Wx w B F p n P now seq) (ha : now < a) (ha2 : a ≤ 1099511627776) (hseq : seq ≤ 1152921504606846976) (hbig : P.length ≤ 1048576) :
    Calls Try.prog 16 #[.pointer (some ⟨p, 0, none⟩), .string (k), .int .i64 (a : Nat)] w fun e w' =>
      e = .returned (.int .i64 0) ∧ (∃ F', Wx w' B F' p n (P.filter (fun y => decide (y.k ≠ k)) ++ [⟨k, a, seq + 1⟩]) now (seq + 1) ∧ Gr w F F') ∧ Mod F w w' := by
  obtain ⟨t, m, vs, h⟩ := h
  exact (set_any k a h ha ha2 hseq hbig).mono fun _ _ ⟨he, ⟨F', vs', h1, h2⟩, h3⟩ => ⟨he, ⟨F', ⟨t, m, vs', h1⟩, h2⟩, h3⟩
theorem drop_wx (k : K) (h : Wx w B F p n P now seq) (hbig : P.length ≤ 1048576) :
    Calls Try.prog 20 #[.pointer (some ⟨p, 0, none⟩), .string (k)] w fun e w' =>
      e = .returned (.bool (P.any fun y => decide (y.k = k))) ∧ Wx w' B F p n (P.filter fun y => decide (y.k ≠ k)) now seq ∧ Mod F w w' := by
  obtain ⟨t, m, vs, h⟩ := h
  exact (drop_any k h (by omega)).mono fun _ _ ⟨he, ⟨vs', h1⟩, h3⟩ => ⟨he, ⟨t, m, vs', h1⟩, h3⟩
theorem tick_wx (h : Wx w B F p n P now seq) (hnow : now ≤ 1152921504606846976) (hbig : P.length ≤ 1048576) :
    Calls Try.prog 17 #[.pointer (some ⟨p, 0, none⟩)] w fun e w' =>
      (∃ F' out, e = .returned out ∧ Wx w' B F' p n (P.filter fun y => decide (y.t ≠ now + 1)) (now + 1) seq ∧ Gr w F F' ∧ Rs w' F' w.heap.size out ((P.filter fun y => decide (y.t = now + 1)).map (·.k))) ∧ Mod F w w' := by
  obtain ⟨t, m, vs, h⟩ := h
  exact (tick_any h hnow hbig).mono fun _ _ ⟨out, he, F', vs', h1, h2, h3, h4, h5⟩ => ⟨⟨F', out, he, ⟨t, m, vs', h1⟩, h4, h2, h3⟩, h5⟩
end Ws

namespace Wi
theorem now_wx {w : World} {B : Nat} {F : Nat → Prop} {p n : Nat} {P : List D} {now seq : Nat} (h : Wx w B F p n P now seq) :
    Calls Try.prog 12 #[.pointer (some ⟨p, 0, none⟩)] w fun e w' => e = .returned (.int .i64 (now : Nat)) ∧ w' = w := by
  obtain ⟨t, m, vs, h⟩ := h
  have c2 := h.hp.cell 2
  simp only [List.getElem?_toArray, List.getElem?_cons_zero, List.getElem?_cons_succ] at c2
  clear h
  go_enter Try.func12, Try.ntmps12
  go_wp2_with fail
  go_ret
  exact ⟨rfl, rfl⟩
theorem nil_now (w : World) : Calls Try.prog 12 #[.pointer none] w fun e w' => e = .returned (.int .i64 0) ∧ w' = w := by
  go_enter Try.func12, Try.ntmps12
  go_wp2_with fail
  go_ret
  exact ⟨rfl, rfl⟩
theorem nil_set (k a : Int) (w : World) : Calls Try.prog 8 #[.pointer none, .int .i64 k, .int .i64 a] w fun e w' => e = .returned (.int .i64 1) ∧ w' = w := by
  go_enter Try.func8, Try.ntmps8
  go_wp2_with fail
  go_ret
  exact ⟨rfl, rfl⟩
theorem nil_drop (k : Int) (w : World) : Calls Try.prog 13 #[.pointer none, .int .i64 k] w fun e w' => e = .returned (.bool false) ∧ w' = w := by
  go_enter Try.func13, Try.ntmps13
  go_wp2_with fail
  go_ret
  exact ⟨rfl, rfl⟩
end Wi
namespace Ws
theorem at_wx {w : World} {B : Nat} {F : Nat → Prop} {p n : Nat} {P : List D} {now seq : Nat} (k : ByteArray) (h : Wx w B F p n P now seq) (x : D) (hx : x ∈ P) (hk : x.k = k) :
    Calls Try.prog 18 #[.pointer (some ⟨p, 0, none⟩), .string k] w fun e w' => e = .returned (.tuple #[.int .i64 (x.t : Nat), .bool true]) ∧ Below w.heap.size w w' := by
  subst hk
  obtain ⟨t, m, vs, h⟩ := h
  have c1 := h.hp.cell 1
  simp only [List.getElem?_toArray, List.getElem?_cons_zero, List.getElem?_cons_succ] at c1
  have hlk := h.hm.lookup_yes (P := Try.prog) mapT keyT (isK x.k) (List.mem_map_of_mem (f := ent) hx) true
  simp only [if_true] at hlk
  clear h
  go_enter Try.func18, Try.ntmps18
  go_wp2_with fail
  go_ret2
  exact ⟨rfl, (Below.refl _ _).alloc (Nat.le_refl _) _⟩
theorem at_no {w : World} {B : Nat} {F : Nat → Prop} {p n : Nat} {P : List D} {now seq : Nat} (k : ByteArray) (h : Wx w B F p n P now seq) (hk : ∀ x ∈ P, x.k ≠ k) :
    Calls Try.prog 18 #[.pointer (some ⟨p, 0, none⟩), .string k] w fun e w' => e = .returned (.tuple #[.int .i64 0, .bool false]) ∧ Below w.heap.size w w' := by
  obtain ⟨t, m, vs, h⟩ := h
  have c1 := h.hp.cell 1
  simp only [List.getElem?_toArray, List.getElem?_cons_zero, List.getElem?_cons_succ] at c1
  have hno : ∀ y ∈ P.map ent, y.1 ≠ .string k := by
    intro y hy he
    obtain ⟨z, hz, rfl⟩ := List.mem_map.1 hy
    exact hk z hz (by simpa [ent] using he)
  have hlk := h.hm.lookup_no (P := Try.prog) mapT keyT (zeroD w) (isK k) hno true
  simp only [if_true] at hlk
  clear h hk hno
  go_enter Try.func18, Try.ntmps18
  go_wp2_with fail
  go_ret2
  exact ⟨rfl, (Below.refl _ _).alloc (Nat.le_refl _) _⟩
end Ws
theorem tmod_gt (k n : Int) (h : 0 < n) : -n < k.tmod n := by
  have h1 := Int.lt_tmod_of_pos k h
  omega
/-- What a slice of integers shows: nil, or its cells. -/
def Ints (w : World) (a : Option Addr) (n : Nat) (l : List Int) : Prop :=
  l.length = n ∧ (0 < n → ∃ b o, a = some ⟨b, o, none⟩ ∧ b < w.heap.size ∧ ∀ i, i < n → w.cell? ⟨b, o + i, none⟩ = some (.int .i64 (l.getD i 0)))
theorem Ints.below {w w' : World} {a : Option Addr} {n : Nat} {l : List Int} (h : Ints w a n l) (hb : Below w.heap.size w w') : Ints w' a n l := by
  refine ⟨h.1, fun hn => ?_⟩
  obtain ⟨b, o, rfl, hlt, hc⟩ := h.2 hn
  exact ⟨b, o, rfl, Nat.lt_of_lt_of_le hlt hb.size, fun i hi => (hb.cell (p := ⟨b, o + i, none⟩) hlt).trans (hc i hi)⟩
theorem rem_round2 (k n : Int) (h1 : 0 < n) (h2 : n ≤ 1099511627776) : (wrap64 (k.tmod n + n)).tmod n = k % n := by
  have h3 := Int.tmod_lt_of_pos k h1
  have h4 := tmod_gt k n h1
  have h5 : wrap64 (k.tmod n + n) = k.tmod n + n := IntWalk.wrap64_in _ ⟨by omega, by omega⟩
  rw [h5, Int.tmod_eq_emod_of_nonneg (by omega), Int.add_emod_right, Int.tmod_eq_emod]
  split
  · simp
  · rw [← Int.eq_natAbs_of_nonneg (by omega)]; simp
theorem round_big (k n : Int) (h1 : 0 < n) (h2 : n ≤ 1099511627776) (w : World) :
    Calls Try.prog 9 #[.int .i64 k, .int .i64 n] w fun e w' => e = .returned (.int .i64 (k % n)) ∧ w' = w := by
  have H := Lib.hid (rem_round2 k n h1 h2)
  go_enter Try.func9, Try.ntmps9
  go_wp2
  go_ret
  exact ⟨by simp [H.out], rfl⟩
set_option maxRecDepth 100000 in
set_option maxHeartbeats 2000000 in
theorem ints_any (a : Option Addr) (n c : Nat) (l : List Int) (a2 : Option Addr) (m c2 : Nat) (l2 : List Int) (w : World) (h : Ints w a n l) (h2 : Ints w a2 m l2) (hn : n ≤ 1000000) (hm : m ≤ 1000000) :
    Calls Try.prog 14 #[.slice a n c, .slice a2 m c2] w fun e w' => e = .returned (.bool (l == l2)) ∧ Below w.heap.size w w' := by
  have HI := Lib.hid h
  have HJ := Lib.hid h2
  have hl := h.1
  have hl2 := h2.1
  clear h h2
  by_cases hnm : n = m
  · subst hnm
    have HL := Lib.hid (And.intro hl hl2)
    clear hl hl2
    go_enter Try.func14, Try.ntmps14
    go_wp2_with fail
    go_loopw [5] (fun i wr => ∃ k : Nat, k ≤ n ∧ i = .int .i64 k ∧ l.take k = l2.take k ∧ Below w.heap.size w wr) (fun i _ => n - (intOf i).toNat)
    case atStart => exact ⟨0, Nat.zero_le _, rfl, rfl, Below.refl _ _⟩
    case round =>
      obtain ⟨k, hk, rfl, ht, hb⟩ := hrel
      have HT := Lib.hid ht
      have HB := Lib.hid hb
      clear ht hb
      by_cases hlt : k < n
      · obtain ⟨b, o, rfl, hbl, hc⟩ := (HI.out.below HB.out).2 (by omega)
        obtain ⟨b2, o2, rfl, hbl2, hc2⟩ := (HJ.out.below HB.out).2 (by omega)
        have c1 := hc k hlt
        have c2' := hc2 k hlt
        have e1 : l[k]? = some (l.getD k 0) := by rw [List.getD_eq_getElem?_getD, List.getElem?_eq_getElem (by rw [HL.out.1]; exact hlt)]; rfl
        have e2 : l2[k]? = some (l2.getD k 0) := by rw [List.getD_eq_getElem?_getD, List.getElem?_eq_getElem (by rw [HL.out.2]; exact hlt)]; rfl
        obtain ⟨x, hx⟩ : ∃ x, x = l.getD k 0 := ⟨_, rfl⟩
        obtain ⟨y, hy⟩ : ∃ y, y = l2.getD k 0 := ⟨_, rfl⟩
        rw [← hx] at c1 e1
        rw [← hy] at c2' e2
        have E := Lib.hid (And.intro e1 e2)
        clear hc hc2 hx hy e1 e2
        by_cases hxy : x = y
        · subst hxy
          go_wp2_with fail
          refine region_sq (fun _ => False) [(0, true), (1, true), (2, true), (3, true), (4, true), (5, true), (6, true), (7, true), (8, true)] (by kernel_rfl) (by kernel_rfl) (fun _ _ d _ _ h => by cases d <;> exact h) ?_
          repeat (first
              | (refine sq_yes rfl (by rfl) (fun w' hM => by ((try replace hM := hM.of_drew); obtain ⟨hR1, hR2, hR3⟩ := hM.rules; clear hM; go_simp; with_reducible rfl)) ?_; simp only [Act.put, List.setIfInBounds_toArray, List.set_cons_zero, List.set_cons_succ])
              | (refine sq_no rfl (by rfl) ?_; simp only [Act.put, List.setIfInBounds_toArray, List.set_cons_zero, List.set_cons_succ]))
          refine sq_end ?_
          go_wp2_with fail
          go_roundw
          case rel => exact ⟨k + 1, by omega, by go_num, by rw [List.take_add_one, List.take_add_one, E.out.1, E.out.2, HT.out], HB.out.drew⟩
          case measure => simp [intOf]; omega
        · have hne : (x != y) = true := by simpa using hxy
          have HF : Hid ((l == l2) = false) := Lib.hid (by
            rw [beq_eq_false_iff_ne]
            intro he
            have := E.out.1
            rw [he, E.out.2] at this
            exact hxy (Option.some.inj this).symm)
          go_wp2_with fail
          refine region_sq (fun _ => False) [(0, true), (1, true), (2, true), (3, true), (4, true), (5, true), (6, true), (7, true), (8, true)] (by kernel_rfl) (by kernel_rfl) (fun _ _ d _ _ h => by cases d <;> exact h) ?_
          repeat (first
              | (refine sq_yes rfl (by rfl) (fun w' hM => by ((try replace hM := hM.of_drew); obtain ⟨hR1, hR2, hR3⟩ := hM.rules; clear hM; go_simp; with_reducible rfl)) ?_; simp only [Act.put, List.setIfInBounds_toArray, List.set_cons_zero, List.set_cons_succ])
              | (refine sq_no rfl (by rfl) ?_; simp only [Act.put, List.setIfInBounds_toArray, List.set_cons_zero, List.set_cons_succ]))
          refine sq_end ?_
          go_wp2_with fail
          go_ret
          exact ⟨by rw [HF.out]; rfl, HB.out.drew⟩
      · obtain rfl : k = n := by omega
        have HF : Hid ((l == l2) = true) := Lib.hid (by
          rw [beq_iff_eq]
          have := HT.out
          rwa [List.take_of_length_le (by rw [HL.out.1]; exact Nat.le_refl _), List.take_of_length_le (by rw [HL.out.2]; exact Nat.le_refl _)] at this)
        go_wp2_with fail
        go_ret
        exact ⟨by rw [HF.out]; rfl, HB.out⟩
  · have HF : Hid ((l == l2) = false) := Lib.hid (by
      rw [beq_eq_false_iff_ne]
      intro he
      rw [he] at hl
      omega)
    clear hl hl2
    go_enter Try.func14, Try.ntmps14
    go_wp2_with fail
    go_ret
    exact ⟨by rw [HF.out]; rfl, Below.refl _ _⟩
/-- A slice of keys that are ints, as Ints has it. -/
theorem ints_of_rd {w : World} {a : Option Addr} {n : Nat} {L : List Int} (h : Rd 1 Wi.keyL w a n L) : Ints w a n L := by
  refine ⟨h.1, fun hn => ?_⟩
  obtain ⟨b, o, rfl, hlt, hc⟩ := h.2 hn
  refine ⟨b, o, rfl, hlt, fun i hi => ?_⟩
  have hx : L[i]? = some (L.getD i 0) := by rw [List.getD_eq_getElem?_getD, List.getElem?_eq_getElem (by rw [h.1]; exact hi)]; rfl
  have := hc i _ hx 0 (by omega)
  rw [Nat.mul_one, Nat.add_zero] at this
  exact this
end Go.Proofs.Ytaadkehopfjclaa
