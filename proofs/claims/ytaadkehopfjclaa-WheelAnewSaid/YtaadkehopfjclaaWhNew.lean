/-
  The wheel's methods, one contract each, for keys that are ints and keys that are strings.
-/
import Derived.Test.YtaadkehopfjclaaWhDel
import Derived.WalkSpells
import Derived.WalkLawsBesides
import Derived.Lib.Hide
import Derived.Laws.MakeOwn
import Derived.OwnWalk
import Derived.Shelf.Abstract
namespace Go.Proofs.Ytaadkehopfjclaa
open Go.RowKit Go.MapKept Go.Shelf
theorem map_eraseIdx {α β : Type} (f : α → β) (l : List α) (j : Nat) : (l.map f).eraseIdx j = (l.eraseIdx j).map f := by
  apply List.ext_getElem?
  intro i
  rw [List.getElem?_map, List.getElem?_eraseIdx, List.getElem?_eraseIdx]
  split <;> rw [List.getElem?_map]
theorem erase_filter {α : Type} (q : α → Bool) : ∀ (l : List α) (j : Nat) (x : α), l[j]? = some x → q x = false → (∀ i y, i ≠ j → l[i]? = some y → q y = true) → l.eraseIdx j = l.filter q
  | [], j, x, h, _, _ => by simp at h
  | a :: r, 0, x, h, hx, hn => by
    simp only [List.getElem?_cons_zero, Option.some.injEq] at h
    subst h
    rw [List.eraseIdx_cons_zero, List.filter_cons, hx, if_neg (by simp), List.filter_eq_self.2]
    intro y hy
    obtain ⟨i, hi, rfl⟩ := List.getElem_of_mem hy
    exact hn (i + 1) _ (by omega) (by rw [List.getElem?_cons_succ]; exact List.getElem?_eq_getElem hi)
  | a :: r, j + 1, x, h, hx, hn => by
    rw [List.getElem?_cons_succ] at h
    rw [List.eraseIdx_cons_succ, List.filter_cons, hn 0 a (by omega) rfl, if_pos rfl, erase_filter q r j x h hx fun i y hi hy => hn (i + 1) y (by omega) (by rw [List.getElem?_cons_succ]; exact hy)]
theorem pair_inj {α : Type} {R : α → α → Prop} {l : List α} (h : l.Pairwise R) {i j : Nat} {x y : α} (hx : l[i]? = some x) (hy : l[j]? = some y) (hn : ¬ R x y) (hn' : ¬ R y x) : i = j := by
  obtain ⟨hi, e1⟩ := List.getElem?_eq_some_iff.1 hx
  obtain ⟨hj, e2⟩ := List.getElem?_eq_some_iff.1 hy
  have hp := List.pairwise_iff_getElem.1 h
  rcases Nat.lt_trichotomy i j with h3 | h3 | h3
  · exact absurd (by rw [← e1, ← e2]; exact hp i j hi hj h3) hn
  · exact h3
  · exact absurd (by rw [← e1, ← e2]; exact hp j i hj hi h3) hn'

namespace Wi
/-- A wheel's header. -/
abbrev hd (n t m now seq : Nat) : Array Value := #[.slice (some ⟨t, 0, none⟩) n n, .map (some m), .int .i64 (now : Nat), .int .i64 (seq : Nat)]
/-- A wheel in the heap: its header's block p, its slots' t, its map's m; F: all blocks that are its own; who is due (P), in the order of Set. -/
structure Wh (w : World) (B : Nat) (F : Nat → Prop) (p t m n : Nat) (vs : List Value) (P : List D) (now seq : Nat) : Prop where
  hp : At w p 49 (hd n t m now seq)
  ht : At w t 52 vs.toArray
  hm : Mp (.int .i64) w m (P.map ent)
  hn : vs.length = n
  n0 : 0 < n
  n1 : n ≤ 4096
  sl : ∀ (i : Nat) (v : Value), vs[i]? = some v → Sl 3 due 51 w B v (P.filter fun x => x.t % n == i)
  own : ∀ (i j : Nat) (u v : Value) (g : Nat), vs[i]? = some u → vs[j]? = some v → u.ownBlock = some g → v.ownBlock = some g → i = j
  fp : F p
  ft : F t
  fm : F m
  fo : ∀ (i : Nat) (v : Value) (g : Nat), vs[i]? = some v → v.ownBlock = some g → F g
  fb : ∀ g, F g → B ≤ g ∧ g < w.heap.size
  sq : P.Pairwise fun x y => x.s < y.s
  sb : ∀ x ∈ P, x.s ≤ seq
variable {w w' : World} {B : Nat} {F : Nat → Prop} {p t m n : Nat} {vs : List Value} {P : List D} {now seq : Nat}
theorem Wh.same (h : Wh w B F p t m n vs P now seq) (hs : w.heap.size ≤ w'.heap.size) (hb : ∀ g, F g → w'.heap[g]? = w.heap[g]?) : Wh w' B F p t m n vs P now seq :=
  ⟨(hb p h.fp).trans h.hp, (hb t h.ft).trans h.ht, h.hm.same (hb m h.fm), h.hn, h.n0, h.n1, fun i v hv => (h.sl i v hv).same fun g hg _ => hb g (h.fo i v g hv hg), h.own, h.fp, h.ft, h.fm, h.fo, fun g hg => ⟨(h.fb g hg).1, Nat.lt_of_lt_of_le (h.fb g hg).2 hs⟩, h.sq, h.sb⟩
theorem Wh.below (h : Wh w B F p t m n vs P now seq) (hb : Below w.heap.size w w') : Wh w' B F p t m n vs P now seq := h.same hb.size fun g hg => hb.block g (h.fb g hg).2
theorem Wh.drew (h : Wh w B F p t m n vs P now seq) : Wh w.drew B F p t m n vs P now seq := h.same (Nat.le_refl _) fun _ _ => rfl
theorem Wh.mod {M : Nat → Prop} (h : Wh w B F p t m n vs P now seq) (hm : Mod M w w') (hM : ∀ g, F g → ¬ M g) : Wh w' B F p t m n vs P now seq := h.same hm.size fun g hg => hm.block g (h.fb g hg).2 (hM g hg)
theorem Wh.ne_pt (h : Wh w B F p t m n vs P now seq) : p ≠ t := h.hp.ne h.ht (by decide)
theorem Wh.ne_pm (h : Wh w B F p t m n vs P now seq) : p ≠ m := h.hm.notAt h.hp
theorem Wh.ne_tm (h : Wh w B F p t m n vs P now seq) : t ≠ m := h.hm.notAt h.ht
theorem slAt {v : Value} {L : List D} {g : Nat} (h : Sl 3 due 51 w B v L) (hv : v.ownBlock = some g) : ∃ cs, At w g 51 cs := by
  rcases h.cases with ⟨rfl, _⟩ | ⟨g', c', cur, rfl, h2, h3, _⟩
  · cases hv
  · simp only [Value.ownBlock, Option.some.injEq] at hv
    subst hv
    exact ⟨_, h3⟩
theorem Wh.ne_own (h : Wh w B F p t m n vs P now seq) {i : Nat} {v : Value} (hv : vs[i]? = some v) {g : Nat} (hg : v.ownBlock = some g) : g ≠ p ∧ g ≠ t ∧ g ≠ m := by
  obtain ⟨cs, hc⟩ := slAt (h.sl i v hv) hg
  exact ⟨hc.ne h.hp (by decide), hc.ne h.ht (by decide), h.hm.notAt hc⟩
theorem Wh.keys (h : Wh w B F p t m n vs P now seq) : P.Pairwise fun x y => x.k ≠ y.k := by
  have := h.hm.apart
  rw [List.pairwise_map] at this
  exact this.imp fun hab he => hab ((ent_key _ _).2 he)
theorem Wh.key_inj (h : Wh w B F p t m n vs P now seq) {x y : D} (hx : x ∈ P) (hy : y ∈ P) (hk : x.k = y.k) : x = y := by
  obtain ⟨i, hi⟩ := List.mem_iff_getElem?.1 hx
  obtain ⟨j, hj⟩ := List.mem_iff_getElem?.1 hy
  have := pair_inj h.keys hi hj (fun h => h hk) (fun h => h hk.symm)
  subst this
  rw [hi] at hj
  exact Option.some.inj hj
theorem Wh.seq_inj (h : Wh w B F p t m n vs P now seq) {x y : D} (hx : x ∈ P) (hy : y ∈ P) (hk : x.s = y.s) : x = y := by
  obtain ⟨i, hi⟩ := List.mem_iff_getElem?.1 hx
  obtain ⟨j, hj⟩ := List.mem_iff_getElem?.1 hy
  have := pair_inj h.sq hi hj (by omega) (by omega)
  subst this
  rw [hi] at hj
  exact Option.some.inj hj
theorem Wh.seq_key (h : Wh w B F p t m n vs P now seq) {x y : D} (hx : x ∈ P) (hy : y ∈ P) : (y.s != x.s) = (decide (y.k ≠ x.k)) := by
  rw [Bool.eq_iff_iff, bne_iff_ne, decide_eq_true_iff]
  constructor
  · intro h1 h2; exact h1 (congrArg D.s (h.key_inj hy hx h2))
  · intro h1 h2; exact h1 (congrArg D.k (h.seq_inj hy hx h2))
theorem Wh.len (h : Wh w B F p t m n vs P now seq) : (Builtin.len_ #[47] 3 #[.map (some m)]).run Try.prog w = .ok (.int .i64 (P.length : Nat)) w := by
  have := h.hm.len (P := Try.prog) (t := 47) (k := 3) (e := 51) (by kernel_rfl) 3
  rwa [List.length_map] at this
theorem mapT : Try.prog.underlying 47 = some (.map 3 51) := by kernel_rfl
theorem keyT : Try.prog.underlying 3 = some (.int .i64) := by kernel_rfl
theorem zeroD (w : World) : (zeroValue 51).run Try.prog w = .ok (.agg #[.int .i64 0, .int .i64 0, .int .i64 0]) w := by
  obtain ⟨i0, hi0, hz0, -, -⟩ := info_parts infoD
  simp [zeroValue, typeInfo, hi0, hz0, Result.andThen]
theorem infoS : (Try.prog.info? 52).map (fun i => (i.zero, i.size, i.bytes)) = some (some (.slice none 0 0), 1, 24) := by kernel_rfl
theorem makeS (n : Nat) (hn : n ≤ 4096) (w : World) : (Instr.makeSlice 46 (.int .i64 (n : Int)) (.int .i64 (n : Int))).run Try.prog w = .ok (.slice (some ⟨w.heap.size, 0, none⟩) n n) (w.alloc (.cells (List.replicate n (.slice none 0 0)).toArray 52)) := by
  obtain ⟨i0, hi, hz0, hz1, hz2⟩ := info_parts infoS
  have := run_make (P := Try.prog) w 46 52 i0 _ Try.underlying46 hi hz0 .i64 .i64 n n (by omega) (by omega) (by rw [hz2]; omega) (by omega)
  rw [hz1, Int.toNat_natCast] at this
  rw [this]
  refine congrArg (fun c => Result.ok (Value.slice (some ⟨w.heap.size, 0, none⟩) n n) (w.alloc (.cells c 52))) ?_
  apply Array.ext_getElem?
  intro i
  unfold madeCells
  rw [Array.getElem?_map, Array.getElem?_range, List.getElem?_toArray, List.getElem?_replicate, Nat.mul_one]
  by_cases h : i < n
  · rw [if_pos h, if_pos h]; simp [Value.cells, Nat.mod_one]
  · rw [if_neg h, if_neg h]; rfl
set_option maxHeartbeats 1000000 in
theorem new_ok (n : Nat) (h1 : 1 ≤ n) (h2 : n ≤ 4096) (w : World) :
    Calls Try.prog 7 #[.int .i64 n] w fun e w' => Below w.heap.size w w' ∧ ∃ p t m F vs, e = .returned (.tuple #[.pointer (some ⟨p, 0, none⟩), .int .i64 0]) ∧ Wh w' w.heap.size F p t m n vs [] 0 0 := by
  have hmk := makeS n h2
  have hmm := fun w => run_makeMap Try.prog w 47
  have d1 : decide ((n : Int) < 1) = false := by simp; omega
  have d2 : decide (4096 < (n : Int)) = false := by simp; omega
  go_enter Try.func7, Try.ntmps7
  go_wp2_with fail
  go_ret2
  refine ⟨((((Below.refl _ _).alloc (Nat.le_refl _) _).alloc (by simp) _).alloc (by simp; omega) _), w.heap.size + 1 + 1, w.heap.size, w.heap.size + 1, (fun g => w.heap.size ≤ g ∧ g < w.heap.size + 3), List.replicate n (.slice none 0 0), rfl, ?_⟩
  refine ⟨at_new _ _ _ _ (by simp), ((at_new w _ _ _ rfl).alloc _).alloc _, ?_, by simp, by omega, h2, ?_, ?_, by omega, by omega, by omega, ?_, ?_, List.Pairwise.nil, by simp⟩
  · have := (Mp.new (.int .i64) (w.alloc (.cells (List.replicate n (.slice none 0 0)).toArray 52)))
    rw [World.size_alloc] at this
    exact this.alloc _
  · intro i v hv
    rw [List.getElem?_replicate] at hv
    split at hv <;> simp at hv
    subst hv
    exact Sl.nil _ _ _ _ _
  · intro i j u v g hu _ hg
    rw [List.getElem?_replicate] at hu
    split at hu <;> simp at hu
    subst hu; cases hg
  · intro i v g hu hg
    rw [List.getElem?_replicate] at hu
    split at hu <;> simp at hu
    subst hu; cases hg
  · intro g hg; simp; omega
theorem new_no (n : Int) (hg : ¬ (1 ≤ n ∧ n ≤ 4096)) (w : World) :
    Calls Try.prog 7 #[.int .i64 n] w fun e w' => e = .returned (.tuple #[.pointer none, .int .i64 1]) ∧ Below w.heap.size w w' := by
  have hcase : n < 1 ∨ (decide (n < 1) = false ∧ 4096 < n) := by
    simp only [decide_eq_false_iff_not]; omega
  clear hg
  rcases hcase with c1 | ⟨c1, c2⟩ <;>
  · go_enter Try.func7, Try.ntmps7
    go_wp2_with fail
    go_ret2
    exact ⟨rfl, Below.refl _ _⟩
theorem len_any (h : Wh w B F p t m n vs P now seq) :
    Calls Try.prog 11 #[.pointer (some ⟨p, 0, none⟩)] w fun e w' => e = .returned (.int .i64 (P.length : Nat)) ∧ w' = w := by
  have c1 := h.hp.cell 1
  have hl := h.len
  simp only [List.getElem?_toArray, List.getElem?_cons_zero, List.getElem?_cons_succ] at c1
  clear h
  go_enter Try.func11, Try.ntmps11
  go_wp2_with fail
  go_ret
  exact ⟨rfl, rfl⟩
end Wi

namespace Ws
/-- A wheel's header. -/
abbrev hd (n t m now seq : Nat) : Array Value := #[.slice (some ⟨t, 0, none⟩) n n, .map (some m), .int .i64 (now : Nat), .int .i64 (seq : Nat)]
/-- A wheel in the heap: its header's block p, its slots' t, its map's m; F: all blocks that are its own; who is due (P), in the order of Set. -/
structure Wh (w : World) (B : Nat) (F : Nat → Prop) (p t m n : Nat) (vs : List Value) (P : List D) (now seq : Nat) : Prop where
  hp : At w p 59 (hd n t m now seq)
  ht : At w t 62 vs.toArray
  hm : Mp (.string) w m (P.map ent)
  hn : vs.length = n
  n0 : 0 < n
  n1 : n ≤ 4096
  sl : ∀ (i : Nat) (v : Value), vs[i]? = some v → Sl 3 due 61 w B v (P.filter fun x => x.t % n == i)
  own : ∀ (i j : Nat) (u v : Value) (g : Nat), vs[i]? = some u → vs[j]? = some v → u.ownBlock = some g → v.ownBlock = some g → i = j
  fp : F p
  ft : F t
  fm : F m
  fo : ∀ (i : Nat) (v : Value) (g : Nat), vs[i]? = some v → v.ownBlock = some g → F g
  fb : ∀ g, F g → B ≤ g ∧ g < w.heap.size
  sq : P.Pairwise fun x y => x.s < y.s
  sb : ∀ x ∈ P, x.s ≤ seq
variable {w w' : World} {B : Nat} {F : Nat → Prop} {p t m n : Nat} {vs : List Value} {P : List D} {now seq : Nat}
theorem Wh.same (h : Wh w B F p t m n vs P now seq) (hs : w.heap.size ≤ w'.heap.size) (hb : ∀ g, F g → w'.heap[g]? = w.heap[g]?) : Wh w' B F p t m n vs P now seq :=
  ⟨(hb p h.fp).trans h.hp, (hb t h.ft).trans h.ht, h.hm.same (hb m h.fm), h.hn, h.n0, h.n1, fun i v hv => (h.sl i v hv).same fun g hg _ => hb g (h.fo i v g hv hg), h.own, h.fp, h.ft, h.fm, h.fo, fun g hg => ⟨(h.fb g hg).1, Nat.lt_of_lt_of_le (h.fb g hg).2 hs⟩, h.sq, h.sb⟩
theorem Wh.below (h : Wh w B F p t m n vs P now seq) (hb : Below w.heap.size w w') : Wh w' B F p t m n vs P now seq := h.same hb.size fun g hg => hb.block g (h.fb g hg).2
theorem Wh.drew (h : Wh w B F p t m n vs P now seq) : Wh w.drew B F p t m n vs P now seq := h.same (Nat.le_refl _) fun _ _ => rfl
theorem Wh.mod {M : Nat → Prop} (h : Wh w B F p t m n vs P now seq) (hm : Mod M w w') (hM : ∀ g, F g → ¬ M g) : Wh w' B F p t m n vs P now seq := h.same hm.size fun g hg => hm.block g (h.fb g hg).2 (hM g hg)
theorem Wh.ne_pt (h : Wh w B F p t m n vs P now seq) : p ≠ t := h.hp.ne h.ht (by decide)
theorem Wh.ne_pm (h : Wh w B F p t m n vs P now seq) : p ≠ m := h.hm.notAt h.hp
theorem Wh.ne_tm (h : Wh w B F p t m n vs P now seq) : t ≠ m := h.hm.notAt h.ht
theorem slAt {v : Value} {L : List D} {g : Nat} (h : Sl 3 due 61 w B v L) (hv : v.ownBlock = some g) : ∃ cs, At w g 61 cs := by
  rcases h.cases with ⟨rfl, _⟩ | ⟨g', c', cur, rfl, h2, h3, _⟩
  · cases hv
  · simp only [Value.ownBlock, Option.some.injEq] at hv
    subst hv
    exact ⟨_, h3⟩
theorem Wh.ne_own (h : Wh w B F p t m n vs P now seq) {i : Nat} {v : Value} (hv : vs[i]? = some v) {g : Nat} (hg : v.ownBlock = some g) : g ≠ p ∧ g ≠ t ∧ g ≠ m := by
  obtain ⟨cs, hc⟩ := slAt (h.sl i v hv) hg
  exact ⟨hc.ne h.hp (by decide), hc.ne h.ht (by decide), h.hm.notAt hc⟩
theorem Wh.keys (h : Wh w B F p t m n vs P now seq) : P.Pairwise fun x y => x.k ≠ y.k := by
  have := h.hm.apart
  rw [List.pairwise_map] at this
  exact this.imp fun hab he => hab ((ent_key _ _).2 he)
theorem Wh.key_inj (h : Wh w B F p t m n vs P now seq) {x y : D} (hx : x ∈ P) (hy : y ∈ P) (hk : x.k = y.k) : x = y := by
  obtain ⟨i, hi⟩ := List.mem_iff_getElem?.1 hx
  obtain ⟨j, hj⟩ := List.mem_iff_getElem?.1 hy
  have := pair_inj h.keys hi hj (fun h => h hk) (fun h => h hk.symm)
  subst this
  rw [hi] at hj
  exact Option.some.inj hj
theorem Wh.seq_inj (h : Wh w B F p t m n vs P now seq) {x y : D} (hx : x ∈ P) (hy : y ∈ P) (hk : x.s = y.s) : x = y := by
  obtain ⟨i, hi⟩ := List.mem_iff_getElem?.1 hx
  obtain ⟨j, hj⟩ := List.mem_iff_getElem?.1 hy
  have := pair_inj h.sq hi hj (by omega) (by omega)
  subst this
  rw [hi] at hj
  exact Option.some.inj hj
theorem Wh.seq_key (h : Wh w B F p t m n vs P now seq) {x y : D} (hx : x ∈ P) (hy : y ∈ P) : (y.s != x.s) = (decide (y.k ≠ x.k)) := by
  rw [Bool.eq_iff_iff, bne_iff_ne, decide_eq_true_iff]
  constructor
  · intro h1 h2; exact h1 (congrArg D.s (h.key_inj hy hx h2))
  · intro h1 h2; exact h1 (congrArg D.k (h.seq_inj hy hx h2))
theorem Wh.len (h : Wh w B F p t m n vs P now seq) : (Builtin.len_ #[57] 3 #[.map (some m)]).run Try.prog w = .ok (.int .i64 (P.length : Nat)) w := by
  have := h.hm.len (P := Try.prog) (t := 57) (k := 9) (e := 61) (by kernel_rfl) 3
  rwa [List.length_map] at this
theorem mapT : Try.prog.underlying 57 = some (.map 9 61) := by kernel_rfl
theorem keyT : Try.prog.underlying 9 = some (.string) := by kernel_rfl
theorem zeroD (w : World) : (zeroValue 61).run Try.prog w = .ok (.agg #[.string ⟨#[]⟩, .int .i64 0, .int .i64 0]) w := by
  obtain ⟨i0, hi0, hz0, -, -⟩ := info_parts infoD
  simp [zeroValue, typeInfo, hi0, hz0, Result.andThen]
theorem infoS : (Try.prog.info? 62).map (fun i => (i.zero, i.size, i.bytes)) = some (some (.slice none 0 0), 1, 24) := by kernel_rfl
theorem makeS (n : Nat) (hn : n ≤ 4096) (w : World) : (Instr.makeSlice 56 (.int .i64 (n : Int)) (.int .i64 (n : Int))).run Try.prog w = .ok (.slice (some ⟨w.heap.size, 0, none⟩) n n) (w.alloc (.cells (List.replicate n (.slice none 0 0)).toArray 62)) := by
  obtain ⟨i0, hi, hz0, hz1, hz2⟩ := info_parts infoS
  have := run_make (P := Try.prog) w 56 62 i0 _ Try.underlying56 hi hz0 .i64 .i64 n n (by omega) (by omega) (by rw [hz2]; omega) (by omega)
  rw [hz1, Int.toNat_natCast] at this
  rw [this]
  refine congrArg (fun c => Result.ok (Value.slice (some ⟨w.heap.size, 0, none⟩) n n) (w.alloc (.cells c 62))) ?_
  apply Array.ext_getElem?
  intro i
  unfold madeCells
  rw [Array.getElem?_map, Array.getElem?_range, List.getElem?_toArray, List.getElem?_replicate, Nat.mul_one]
  by_cases h : i < n
  · rw [if_pos h, if_pos h]; simp [Value.cells, Nat.mod_one]
  · rw [if_neg h, if_neg h]; rfl
set_option maxHeartbeats 1000000 in
theorem new_ok (n : Nat) (h1 : 1 ≤ n) (h2 : n ≤ 4096) (w : World) :
    Calls Try.prog 15 #[.int .i64 n] w fun e w' => Below w.heap.size w w' ∧ ∃ p t m F vs, e = .returned (.tuple #[.pointer (some ⟨p, 0, none⟩), .int .i64 0]) ∧ Wh w' w.heap.size F p t m n vs [] 0 0 := by
  have hmk := makeS n h2
  have hmm := fun w => run_makeMap Try.prog w 57
  have d1 : decide ((n : Int) < 1) = false := by simp; omega
  have d2 : decide (4096 < (n : Int)) = false := by simp; omega
  go_enter Try.func15, Try.ntmps15
  go_wp2_with fail
  go_ret2
  refine ⟨((((Below.refl _ _).alloc (Nat.le_refl _) _).alloc (by simp) _).alloc (by simp; omega) _), w.heap.size + 1 + 1, w.heap.size, w.heap.size + 1, (fun g => w.heap.size ≤ g ∧ g < w.heap.size + 3), List.replicate n (.slice none 0 0), rfl, ?_⟩
  refine ⟨at_new _ _ _ _ (by simp), ((at_new w _ _ _ rfl).alloc _).alloc _, ?_, by simp, by omega, h2, ?_, ?_, by omega, by omega, by omega, ?_, ?_, List.Pairwise.nil, by simp⟩
  · have := (Mp.new (.string) (w.alloc (.cells (List.replicate n (.slice none 0 0)).toArray 62)))
    rw [World.size_alloc] at this
    exact this.alloc _
  · intro i v hv
    rw [List.getElem?_replicate] at hv
    split at hv <;> simp at hv
    subst hv
    exact Sl.nil _ _ _ _ _
  · intro i j u v g hu _ hg
    rw [List.getElem?_replicate] at hu
    split at hu <;> simp at hu
    subst hu; cases hg
  · intro i v g hu hg
    rw [List.getElem?_replicate] at hu
    split at hu <;> simp at hu
    subst hu; cases hg
  · intro g hg; simp; omega
theorem new_no (n : Int) (hg : ¬ (1 ≤ n ∧ n ≤ 4096)) (w : World) :
    Calls Try.prog 15 #[.int .i64 n] w fun e w' => e = .returned (.tuple #[.pointer none, .int .i64 1]) ∧ Below w.heap.size w w' := by
  have hcase : n < 1 ∨ (decide (n < 1) = false ∧ 4096 < n) := by
    simp only [decide_eq_false_iff_not]; omega
  clear hg
  rcases hcase with c1 | ⟨c1, c2⟩ <;>
  · go_enter Try.func15, Try.ntmps15
    go_wp2_with fail
    go_ret2
    exact ⟨rfl, Below.refl _ _⟩
theorem len_any (h : Wh w B F p t m n vs P now seq) :
    Calls Try.prog 19 #[.pointer (some ⟨p, 0, none⟩)] w fun e w' => e = .returned (.int .i64 (P.length : Nat)) ∧ w' = w := by
  have c1 := h.hp.cell 1
  have hl := h.len
  simp only [List.getElem?_toArray, List.getElem?_cons_zero, List.getElem?_cons_succ] at c1
  clear h
  go_enter Try.func19, Try.ntmps19
  go_wp2_with fail
  go_ret
  exact ⟨rfl, rfl⟩
end Ws
end Go.Proofs.Ytaadkehopfjclaa
