/-
  BloomUnion: what is merged.
-/
import Derived.Test.YtjjadakjkkmjgaaFBloomQ
namespace Go.Proofs.Ytjjadakjkkmjgaa
open Go.RowKit
/-- Two rows in order, merged. -/
def mg : List Nat → List Nat → List Nat
  | [], q => q
  | a :: p, [] => a :: p
  | a :: p, b :: q => if a < b then a :: mg p (b :: q) else if b < a then b :: mg (a :: p) q else a :: mg p q
termination_by p q => p.length + q.length
theorem mg_nil (q : List Nat) : mg [] q = q := by rw [mg]
theorem mg_nil' (p : List Nat) : mg p [] = p := by cases p <;> rw [mg]
theorem mg_lt (a b : Nat) (p q : List Nat) (h : a < b) : mg (a :: p) (b :: q) = a :: mg p (b :: q) := by rw [mg, if_pos h]
theorem mg_gt (a b : Nat) (p q : List Nat) (h : b < a) : mg (a :: p) (b :: q) = b :: mg (a :: p) q := by rw [mg, if_neg (by omega), if_pos h]
theorem mg_eq (a : Nat) (p q : List Nat) : mg (a :: p) (a :: q) = a :: mg p q := by rw [mg, if_neg (by omega), if_neg (by omega)]
theorem mg_ahead (s : Nat) : ∀ (q : List Nat), (∀ x ∈ q, s < x) → ∀ p, mg (s :: p) q = s :: mg p q
  | [], _, p => by rw [mg_nil', mg_nil']
  | b :: q, h, p => mg_lt s b p q (h b (by simp))
theorem mg_ahead' (s : Nat) : ∀ (p : List Nat), (∀ x ∈ p, s < x) → ∀ q, mg p (s :: q) = s :: mg p q
  | [], _, q => by rw [mg_nil, mg_nil]
  | a :: p, h, q => mg_gt a s p q (h a (by simp))
theorem mg_filter (f g : Nat → Bool) : ∀ (n s : Nat), mg ((List.range' s n).filter f) ((List.range' s n).filter g) = (List.range' s n).filter (fun i => f i || g i)
  | 0, s => by simp [mg_nil]
  | n + 1, s => by
    have ih := mg_filter f g n (s + 1)
    have hp : ∀ (h : Nat → Bool) (x : Nat), x ∈ (List.range' (s + 1) n).filter h → s < x := fun h x hx => by
      have := (List.mem_filter.1 hx).1
      rw [List.mem_range'_1] at this
      omega
    rw [List.range'_succ]
    cases hf : f s <;> cases hg : g s
    · simp [hf, hg, ih]
    · rw [List.filter_cons_of_neg (by simp [hf]), List.filter_cons_of_pos hg, List.filter_cons_of_pos (by simp [hg]), mg_ahead' s _ (hp f) _, ih]
    · rw [List.filter_cons_of_pos hf, List.filter_cons_of_neg (by simp [hg]), List.filter_cons_of_pos (by simp [hf]), mg_ahead s _ (hp g) _, ih]
    · rw [List.filter_cons_of_pos hf, List.filter_cons_of_pos hg, List.filter_cons_of_pos (by simp [hf]), mg_eq, ih]
theorem mg_ones (x y z : List Nat) (N : Nat) (h : ∀ p, p < N → bt z p = (bt x p || bt y p)) : mg (onesTo x N) (onesTo y N) = onesTo z N := by
  unfold onesTo
  rw [List.range_eq_range', mg_filter]
  apply List.filter_congr
  intro p hp
  rw [List.mem_range'_1] at hp
  rw [h p (by omega)]
def akT (a : Int) : Ky := akey a true true
theorem union_bits (c : Cf) (N : Nat) (hN : 1 ≤ N) (Z : List Nat) (hZ : N ≤ Z.length * 64) (hz : ∀ p, bt Z p = false) (I J : List Int) :
    ∀ p, p < N → bt (fill akT c N (fill akT c N Z I) J) p = (bt (fill akT c N Z I.reverse) p || bt (fill akT c N Z J) p) := by
  intro p _
  rw [bt_fill akT c N hN J _ p (by rw [fill_length]; exact hZ), bt_fill akT c N hN I Z p hZ, bt_fill akT c N hN I.reverse Z p hZ, bt_fill akT c N hN J Z p hZ, hz]
  by_cases h1 : ∃ a, a ∈ I ∧ p ∈ pN c (akT a) N <;> by_cases h2 : ∃ a, a ∈ J ∧ p ∈ pN c (akT a) N <;> simp [h1, h2]
theorem rev_getD (I : List Int) (t : Nat) (h : t < I.length) : I.reverse.getD t 0 = I.getD (I.length - 1 - t) 0 := by
  rw [List.getD_eq_getElem?_getD, List.getD_eq_getElem?_getD, List.getElem?_reverse h]
theorem cutN_all (l : List Nat) : cutN (-1) l = l := rfl
theorem drop_cons (P : List Nat) (a : Nat) (h : a < P.length) : P.drop a = P.getD a 0 :: P.drop (a + 1) := by
  rw [List.drop_eq_getElem_cons h, List.getD_eq_getElem?_getD, List.getElem?_eq_getElem h]; rfl
theorem mgA (P Q : List Nat) (a b : Nat) (ha : a < P.length) (hb : Q.length ≤ b) : mg (P.drop a) (Q.drop b) = P.getD a 0 :: mg (P.drop (a + 1)) (Q.drop b) := by
  rw [drop_cons P a ha, List.drop_of_length_le hb, mg_nil', mg_nil']
theorem mgB (P Q : List Nat) (a b : Nat) (ha : P.length ≤ a) (hb : b < Q.length) : mg (P.drop a) (Q.drop b) = Q.getD b 0 :: mg (P.drop a) (Q.drop (b + 1)) := by
  rw [drop_cons Q b hb, List.drop_of_length_le ha, mg_nil, mg_nil]
theorem mgL (P Q : List Nat) (a b : Nat) (ha : a < P.length) (hb : b < Q.length) (h : P.getD a 0 < Q.getD b 0) : mg (P.drop a) (Q.drop b) = P.getD a 0 :: mg (P.drop (a + 1)) (Q.drop b) := by
  rw [drop_cons P a ha, drop_cons Q b hb, mg_lt _ _ _ _ h]
theorem mgG (P Q : List Nat) (a b : Nat) (ha : a < P.length) (hb : b < Q.length) (h : Q.getD b 0 < P.getD a 0) : mg (P.drop a) (Q.drop b) = Q.getD b 0 :: mg (P.drop a) (Q.drop (b + 1)) := by
  rw [drop_cons P a ha, drop_cons Q b hb, mg_gt _ _ _ _ h]
theorem mgE (P Q : List Nat) (a b : Nat) (ha : a < P.length) (hb : b < Q.length) (h : P.getD a 0 = Q.getD b 0) : mg (P.drop a) (Q.drop b) = P.getD a 0 :: mg (P.drop (a + 1)) (Q.drop (b + 1)) := by
  rw [drop_cons P a ha, drop_cons Q b hb, ← h, mg_eq]
theorem mg_step {acc rest R : List Nat} {x : Nat} {m : List Nat} (h : acc ++ m = R) (hm : m = x :: rest) : (acc ++ [x]) ++ rest = R := by rw [← h, hm]; simp
theorem Ints.get {w : World} {b o n : Nat} {l : List Int} (h : Ints w (some ⟨b, o, none⟩) n l) (t : Nat) (ht : t < n) : w.cell? ⟨b, o + t, none⟩ = some (.int .i64 (l.getD t 0)) := by
  obtain ⟨b', o', hab, _, hc⟩ := h.2 (by omega)
  simp only [Option.some.injEq, Addr.mk.injEq, and_true] at hab
  obtain ⟨rfl, rfl⟩ := hab
  exact hc t ht
theorem Ints.lt {w : World} {b o n : Nat} {l : List Int} (h : Ints w (some ⟨b, o, none⟩) n l) (hn : 0 < n) : b < w.heap.size := by
  obtain ⟨b', o', hab, hlt, _⟩ := h.2 hn
  simp only [Option.some.injEq, Addr.mk.injEq, and_true] at hab
  omega
theorem Ints.addr {w : World} {a : Option Addr} {n : Nat} {l : List Int} (h : Ints w a n l) (hn : 0 < n) : ∃ b o, a = some ⟨b, o, none⟩ := by
  obtain ⟨b, o, hab, _, _⟩ := h.2 hn
  exact ⟨b, o, hab⟩
/-- An append of one integer. -/
theorem wpList_appi {ops : Array Oper} {rest : List Oper} {o : Oper} {a : Go.Act} {Q : Exit → Go.Act → World → Prop} {w : World} (base : Nat) {v : Value} (l : List Int) (y : Int) (g : Nat) (hown : OI w base v l) (h63 : l.length + 1 ≤ 1000000) (hbase : base ≤ w.heap.size) (hgd : o.guard = none) (s x : Operand)
    (ho : o.op = .call { callee := .builtin .append, args := #[s, x], argTypes := #[22, 22] }) (hs : a.eval s = v) (hx : a.eval x = .slice (some ⟨g, 0, none⟩) 1 1) (hg : g = w.heap.size)
    (h : ∀ v' w', OI w' base v' (l ++ [y]) → Below base w w' → wpList Try.prog ops Q rest (a.put o.dst v') w') : wpList Try.prog ops Q (o :: rest) a (w.alloc (.cells #[.int .i64 y] 3)) :=
  wpList_plain hgd fun _ hK => wp_appi base v l y g (hown.below ((Below.refl _ _).alloc (Nat.le_refl _) _)) h63 hbase ho hgd hs hx hg (fun v' w' h1 h2 _ => hK _ _ (h v' w' h1 (((Below.refl base w).alloc hbase _).trans h2)))
end Go.Proofs.Ytjjadakjkkmjgaa
