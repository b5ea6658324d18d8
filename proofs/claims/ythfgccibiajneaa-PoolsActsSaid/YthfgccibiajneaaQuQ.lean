/-
  Slices of one-cell elements in a block of the call's own, from whatever place on (s = s[1:]; s = append(s, x)).
-/
import Derived.Test.YthfgccibiajneaaBas
import Derived.ArgAppend
namespace Go.Proofs.Ythfgccibiajneaa
open Go.RowKit
def Qu (e : TypeId) (w : World) (B : Nat) (v : Value) (xs : List Value) : Prop :=
  (v = .slice none 0 0 ∧ xs = []) ∨ ∃ g o c cur, v = .slice (some ⟨g, o, none⟩) xs.length c ∧ B ≤ g ∧ At w g e cur ∧ xs.length ≤ c ∧ c ≤ maxLen ∧ o + c ≤ cur.size ∧ ∀ i x, xs[i]? = some x → cur[o + i]? = some x
section
variable {e : TypeId} {w w' : World} {B : Nat} {v : Value} {xs : List Value}
theorem Qu.nil (e : TypeId) (w : World) (B : Nat) : Qu e w B (.slice none 0 0) [] := .inl ⟨rfl, rfl⟩
theorem Qu.same (h : Qu e w B v xs) (hb : ∀ g, v.ownBlock = some g → g < w.heap.size → w'.heap[g]? = w.heap[g]?) : Qu e w' B v xs := by
  rcases h with h1 | ⟨g, o, c, cur, rfl, h2, h3, h4⟩
  · exact .inl h1
  · exact .inr ⟨g, o, c, cur, rfl, h2, (hb g rfl h3.lt).trans h3, h4⟩
theorem Qu.below (h : Qu e w B v xs) (hb : Below w.heap.size w w') : Qu e w' B v xs := h.same fun g _ hg => hb.block g hg
theorem Qu.drew (h : Qu e w B v xs) : Qu e w.drew B v xs := h
theorem Qu.alloc (h : Qu e w B v xs) (o : Obj) : Qu e (w.alloc o) B v xs := h.same fun g _ hg => Below.heap_alloc w o g hg
theorem Qu.mod {M : Nat → Prop} (h : Qu e w B v xs) (hm : Mod M w w') (hM : ∀ g, v.ownBlock = some g → ¬ M g) : Qu e w' B v xs := h.same fun g hv hg => hm.block g hg (hM g hv)
theorem Qu.ge {g : Nat} (h : Qu e w B v xs) (hg : v.ownBlock = some g) : B ≤ g := by
  rcases h with ⟨rfl, _⟩ | ⟨g', o, c, cur, rfl, h2, _⟩
  · cases hg
  · simp only [Value.ownBlock, Option.some.injEq] at hg; omega
theorem At.one_type {t : Nat} {e e' : TypeId} {cs cs' : Array Value} (h : At w t e cs) (h' : At w t e' cs') : e = e' := by
  have := (show w.heap[t]? = _ from h).symm.trans h'
  simp only [Option.some.injEq, Obj.cells.injEq] at this
  exact this.2.1
theorem Qu.ne {t : Nat} {e' : TypeId} {cs : Array Value} (h : Qu e w B v xs) (ht : At w t e' cs) (hne : e ≠ e') : v.ownBlock ≠ some t := by
  intro hv
  rcases h with ⟨rfl, _⟩ | ⟨g, o, c, cur, rfl, h2, h3, _⟩
  · cases hv
  · simp only [Value.ownBlock, Option.some.injEq] at hv
    subst hv
    exact hne (h3.one_type ht)
/-- Two of different elements lie in different blocks. -/
theorem Qu.apart {e' : TypeId} {B' g : Nat} {v' : Value} {xs' : List Value} (h : Qu e w B v xs) (h' : Qu e' w B' v' xs') (hne : e ≠ e') (hg : v.ownBlock = some g) : v'.ownBlock ≠ some g := by
  rcases h with ⟨rfl, _⟩ | ⟨g', o, c, cur, rfl, h2, h3, _⟩
  · cases hg
  · simp only [Value.ownBlock, Option.some.injEq] at hg
    subst hg
    exact h'.ne h3 (fun e => hne e.symm)
theorem Qu.form (h : Qu e w B v xs) : ∃ a c, v = .slice a xs.length c ∧ xs.length ≤ c := by
  rcases h with ⟨rfl, rfl⟩ | ⟨g, o, c, cur, rfl, h2, h3, h4, _⟩
  · exact ⟨none, 0, rfl, Nat.le_refl _⟩
  · exact ⟨_, _, rfl, h4⟩
theorem Qu.cell {a : Option Addr} {n c i : Nat} {x : Value} (h : Qu e w B (.slice a n c) xs) (hx : xs[i]? = some x) : ∃ g o, a = some ⟨g, o, none⟩ ∧ B ≤ g ∧ g < w.heap.size ∧ w.cell? ⟨g, o + i, none⟩ = some x := by
  rcases h with ⟨h1, rfl⟩ | ⟨g, o, c', cur, h1, h2, h3, h4, h5, h6, h7⟩
  · simp at hx
  · simp only [Value.slice.injEq] at h1
    obtain ⟨rfl, _, _⟩ := h1
    exact ⟨g, o, rfl, h2, h3.lt, by rw [h3.cell]; exact h7 i x hx⟩
/-- The first one let go; in the walk's own spelling. -/
theorem Qu.tail {g o n c : Nat} {x : Value} {r : List Value} (h : Qu e w B (.slice (some ⟨g, o, none⟩) n c) (x :: r)) : Qu e w B (.slice (if c = 1 then some ⟨g, o, none⟩ else some ⟨g, o + 1, none⟩) (n - 1) (c - 1)) r := by
  rcases h with ⟨h1, _⟩ | ⟨g', o', c', cur, h1, h2, h3, h4, h5, h6, h7⟩
  · simp at h1
  · simp only [Value.slice.injEq, Option.some.injEq, Addr.mk.injEq, and_true] at h1
    obtain ⟨⟨rfl, rfl⟩, rfl, rfl⟩ := h1
    simp only [List.length_cons] at h4
    by_cases hc : c = 1
    · rw [if_pos hc]
      have : r = [] := List.eq_nil_of_length_eq_zero (by omega)
      subst this
      exact .inr ⟨g, o, c - 1, cur, by simp, h2, h3, by simp, by omega, by omega, fun i x hx => by simp at hx⟩
    · rw [if_neg hc]
      refine .inr ⟨g, o + 1, c - 1, cur, by simp, h2, h3, by omega, by omega, by omega, fun i y hy => ?_⟩
      have := h7 (i + 1) y (by simpa using hy)
      rwa [show o + 1 + i = o + (i + 1) by omega]
theorem Qu.of_own (h : w.ownsRow B e 1 v xs.length xs) : Qu e w B v xs := by
  rcases h.2 with ⟨h1, h2⟩ | ⟨g, cap, cur, h1, h2, h3, h4, h5, h6, h7⟩
  · exact .inl ⟨h1, List.eq_nil_of_length_eq_zero h2⟩
  · refine .inr ⟨g, 0, cap, cur, h1, h2, h3, h4, h5, by omega, fun i x hx => ?_⟩
    rw [← h7, List.getElem?_take] at hx
    split at hx
    · rw [Nat.zero_add, ← Array.getElem?_toList]; exact hx
    · cases hx
theorem run_qu_app1 {P : Program} {t ty : TypeId} {z : Value} {bytes : Nat} {y : Value} (ht : P.underlying t = some (.slice e)) (hinfo : (P.info? e).map (fun i => (i.zero, i.size, i.bytes)) = some (some z, 1, bytes)) (hzs : z.cells.size = 1)
    (hown : Qu e w B v xs) (h1 : y.oneCell' = true) (h63 : xs.length + 1 ≤ maxLen) (hbytes : (xs.length + 1) * bytes ≤ 140737488355328) (hB : B ≤ w.heap.size) :
    ∃ v' w', (Builtin.append_ #[t, t] ty #[v, .slice (some ⟨w.heap.size, 0, none⟩) 1 1]).run P (w.alloc (.cells #[y] e)) = .ok v' w' ∧ Qu e w' B v' (xs ++ [y]) ∧ Mod (fun g => v.ownBlock = some g) w w' ∧ (v'.ownBlock = v.ownBlock ∨ ∃ q, v'.ownBlock = some q ∧ w.heap.size ≤ q) := by
  obtain ⟨i0, hi, hz0, hz1, hz2⟩ := info_parts hinfo
  have hlen : (xs ++ [y]).length = xs.length + 1 := by simp
  rcases hown with ⟨rfl, rfl⟩ | ⟨g, o, c, cur, rfl, h2, h3, h4, h5, h6, h7⟩
  · obtain ⟨v', w', hr, q2, q3, _, q4⟩ := run_append_own_at (P := P) (w.alloc (.cells #[y] e)) B t ty e i0 z 1 bytes ht hi hz0 hz1 hz2 hzs (by omega) (.slice none 0 0) 0 [] (World.ownsRow_nil _ _ _ _) ⟨w.heap.size, 0, none⟩ 1 1 [y] rfl (cell_one_new w y e) (by simpa using h1) (by simpa using h63) (by simpa using hbytes) (by simp; omega)
    refine ⟨v', w', hr, Qu.of_own q2, ((Mod.refl _ w).alloc _).trans ((Mod.refl _ _).grown q3 (fun k hk _ => hk)), q4.imp id fun q => ⟨_, q, by simp⟩⟩
  · by_cases hroom : xs.length + 1 ≤ c
    · have hlt : o + xs.length < cur.size := by omega
      have h3' := h3.alloc (.cells #[y] e)
      have hr := run_append_room_cells (P := P) (w.alloc (.cells #[y] e)) t ty e i0 ht hi g o xs.length c ⟨w.heap.size, 0, none⟩ 1 1 [y] (by rw [hz1]; rfl) (cell_one_new w y e) (by simpa using h1) hroom
        (fun j hj => by
          have hj0 : j = 0 := by simp at hj; exact hj
          subst hj0
          rw [hz1, Nat.mul_one, Nat.add_zero, h3'.cell, Array.getElem?_eq_getElem hlt]; rfl)
        (fun j hj => h3'.frozen _)
      rw [hz1, Nat.mul_one] at hr
      refine ⟨_, _, hr, .inr ⟨g, o, c, splice cur (o + xs.length) [y], by rw [hlen], h2, At.setCells [y] _ _ _ h3', by rw [hlen]; exact hroom, h5, by rw [splice_size]; exact h6, fun i x hx => ?_⟩, ((Mod.refl _ w).alloc _).trans (Mod.setCells (M := fun k => (Value.slice (some ⟨g, o, none⟩) xs.length c).ownBlock = some k) (g := g) rfl _ _ _), .inl rfl⟩
      rw [splice_get _ _ _ _ (by simp; omega)]
      rcases Nat.lt_or_ge i xs.length with hil | hil
      · rw [if_neg (by omega)]
        rw [List.getElem?_append_left hil] at hx
        exact h7 i x hx
      · rw [List.getElem?_append_right hil] at hx
        have hi0 : i - xs.length = 0 := by have := (List.getElem?_eq_some_iff.1 hx).1; simp at this; omega
        rw [if_pos ⟨by omega, by simp; omega⟩, show o + i - (o + xs.length) = i - xs.length by omega]
        exact hx
    · have h3' := h3.alloc (.cells #[y] e)
      obtain ⟨v', w', hr, q2, q3⟩ := run_append_arg_grows (P := P) (w.alloc (.cells #[y] e)) t ty e i0 z 1 bytes ht hi hz0 hz1 hz2 hzs (by omega) ⟨g, o, none⟩ xs.length c xs (by simp)
        (fun j u hu => by rw [Addr.add_lit, h3'.cell]; exact h7 j u hu) ⟨w.heap.size, 0, none⟩ 1 1 [y] rfl (cell_one_new w y e) (by omega) h63 hbytes
      refine ⟨v', w', hr, ?_, ((Mod.refl _ w).alloc _).trans ((Mod.refl _ _).grown q3 (fun k hk _ => by cases hk)), ?_⟩
      · have := Qu.of_own (xs := xs ++ [y]) (by rw [hlen]; exact q2)
        rcases this with hq | ⟨g', o', c', cur', k1, k2, k3⟩
        · exact .inl hq
        · exact .inr ⟨g', o', c', cur', k1, by simp at k2; omega, k3⟩
      · rcases q2.2 with ⟨_, q⟩ | ⟨g', c', cur', k1, k2, _⟩
        · omega
        · exact .inr ⟨g', by rw [k1]; rfl, by simp at k2; omega⟩
theorem wpList_qu_app1 {P : Program} {ops : Array Oper} {rest : List Oper} {o : Oper} {a0 : Go.Act} {Q : Exit → Go.Act → World → Prop} {s x : Operand} {t : TypeId} {z : Value} {bytes g : Nat} {y : Value} (hgd : o.guard = none)
    (ht : P.underlying t = some (.slice e)) (hinfo : (P.info? e).map (fun i => (i.zero, i.size, i.bytes)) = some (some z, 1, bytes)) (hzs : z.cells.size = 1)
    (hown : Qu e w B v xs) (h1 : y.oneCell' = true) (h63 : xs.length + 1 ≤ maxLen) (hbytes : (xs.length + 1) * bytes ≤ 140737488355328) (hB : B ≤ w.heap.size)
    (ho : o.op = .call { callee := .builtin .append, args := #[s, x], argTypes := #[t, t] }) (hs : a0.eval s = v) (hx : a0.eval x = .slice (some ⟨g, 0, none⟩) 1 1) (hg : g = w.heap.size)
    (h : ∀ v' w', Qu e w' B v' (xs ++ [y]) → Mod (fun g => v.ownBlock = some g) w w' → (v'.ownBlock = v.ownBlock ∨ ∃ q, v'.ownBlock = some q ∧ w.heap.size ≤ q) → wpList P ops Q rest (a0.put o.dst v') w') : wpList P ops Q (o :: rest) a0 (w.alloc (.cells #[y] e)) := by
  subst hg
  obtain ⟨v', w', hr, h2, h3, h4⟩ := run_qu_app1 (P := P) (t := t) (ty := o.type) ht hinfo hzs hown h1 h63 hbytes hB
  refine wpList_plain hgd fun K hK => ?_
  unfold Oper.wp execOp
  simp only [ho, resolve, invoke, builtin, Sem.run_bind, Sem.run_pure, Result.andThen_ok, List.map_toArray, List.map_cons, List.map_nil, hs, hx, hr]
  exact hK _ _ (h v' w' h2 h3 h4)
end
end Go.Proofs.Ythfgccibiajneaa
