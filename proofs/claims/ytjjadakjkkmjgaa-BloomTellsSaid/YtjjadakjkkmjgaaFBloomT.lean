/-
  The document's filter: Insert.
-/
import Derived.Test.YtjjadakjkkmjgaaFBloomS
namespace Go.Proofs.Ytjjadakjkkmjgaa
open Go.RowKit
/-- A store into one block leaves what lies behind it. -/
theorem OI.modg {w w' : World} {g : Nat} {v : Value} {l : List Int} (h : OI w (g + 1) v l) (hm : Mod (fun i => i = g) w w') : OI w' (g + 1) v l := by
  refine ⟨h.1, ?_⟩
  rcases h.2 with h1 | ⟨b, cap, cur, h1, h2, h3, h4⟩
  · exact .inl h1
  · exact .inr ⟨b, cap, cur, h1, h2, (hm.block b (Array.getElem?_eq_some_iff.1 h3).1 (by omega)).trans h3, h4⟩
theorem rds_of_ints {w : World} {a : Option Addr} {n : Nat} {l : List Int} (h : Ints w a n l) : Rds w 1 a n (i64s l) := by
  obtain ⟨h1, h3⟩ := h
  refine ⟨by simp [i64s, h1], fun hn => ?_⟩
  obtain ⟨b, o, rfl, hb, hc⟩ := h3 hn
  refine ⟨_, rfl, hb, fun j u hu => ?_⟩
  have hadd : (⟨b, o, none⟩ : Addr).add j = ⟨b, o + j, none⟩ := by unfold Addr.add; split <;> simp_all
  simp only [i64s, List.getElem?_map, Option.map_eq_some_iff] at hu
  obtain ⟨c, hc', rfl⟩ := hu
  have hj : j < n := by have := (List.getElem?_eq_some_iff.1 hc').1; omega
  rw [hadd, hc j hj, List.getD_eq_getElem?_getD, hc']
  rfl
/-- An append of a row of integers onto a row of one's own. -/
theorem wp_appis {o : Oper} {a : Go.Act} {K : Go.Act → World → Prop} {Q : Exit → Go.Act → World → Prop} {w : World} {s x : Operand} (base : Nat) (v : Value) (l : List Int) (ad : Option Addr) (m c : Nat) (l2 : List Int) (hown : OI w base v l) (hr : Ints w ad m l2)
    (h63 : l.length + m ≤ 1000000) (hbase : base ≤ w.heap.size)
    (ho : o.op = .call { callee := .builtin .append, args := #[s, x], argTypes := #[22, 22] }) (hs : a.eval s = v) (hx : a.eval x = .slice ad m c)
    (h : ∀ v' w', OI w' base v' (l ++ l2) → Below base w w' → Mod (fun i => base ≤ i) w w' → K (a.put o.dst v') w') : o.wp Try.prog a w K Q := by
  obtain ⟨i0, hi, hz0, hz1, hz2⟩ := info_parts infoInt
  obtain ⟨v', w', hr', h2, h3, h4⟩ := run_app (P := Try.prog) w base 22 o.type 3 i0 (.int .i64 0) 1 8 Try.underlying22 hi hz0 hz1 hz2 rfl (by decide) v l.length (i64s l) hown ad m c (i64s l2)
    (rds_of_ints hr) (i64s_one _) (by unfold maxLen; omega) (by omega) hbase
  unfold Oper.wp execOp
  simp only [ho, resolve, invoke, builtin, Sem.run_bind, Sem.run_pure, Result.andThen_ok, List.map_toArray, List.map_cons, List.map_nil, hs, hx, hr']
  refine h v' w' ?_ ((Below.refl base _).grown h3 hbase (fun k hk => OI.ge hown hk)) ((Mod.refl _ _).grown h3 (fun k hk _ => OI.ge hown hk))
  show w'.ownsRow base _ 1 v' (l ++ l2).length (i64s (l ++ l2))
  rw [i64s_append, List.length_append, hr.1]
  exact h2
theorem Ints.head {w : World} {a : Option Addr} {n : Nat} {l : List Int} (h : Ints w a n l) (k : Nat) (hk : k ≤ n) : Ints w a k (l.take k) := by
  refine ⟨by rw [List.length_take, h.1]; omega, fun hn => ?_⟩
  obtain ⟨b, o, hab, hlt, hc⟩ := h.2 (by omega)
  refine ⟨b, o, hab, hlt, fun i hi => ?_⟩
  rw [hc i (by omega), List.getD_eq_getElem?_getD, List.getD_eq_getElem?_getD, List.getElem?_take, if_pos hi]
theorem Ints.tail {w : World} {b o n : Nat} {l : List Int} (h : Ints w (some ⟨b, o, none⟩) n l) (k : Nat) : Ints w (some ⟨b, o + k, none⟩) (n - k) (l.drop k) := by
  refine ⟨by rw [List.length_drop, h.1], fun hn => ?_⟩
  obtain ⟨b', o', hab, hlt, hc⟩ := h.2 (by omega)
  simp only [Option.some.injEq, Addr.mk.injEq, and_true] at hab
  obtain ⟨rfl, rfl⟩ := hab
  refine ⟨b, o + k, rfl, hlt, fun i hi => ?_⟩
  rw [Nat.add_assoc, hc (k + i) (by omega), List.getD_eq_getElem?_getD, List.getD_eq_getElem?_getD, List.getElem?_drop]
end Go.Proofs.Ytjjadakjkkmjgaa
