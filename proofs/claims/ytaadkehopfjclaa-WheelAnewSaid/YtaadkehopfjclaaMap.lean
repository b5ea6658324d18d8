/-
  A map of one's own (keys that are ints or strings; any values): a block .map, read as a list of pairs in the order of insertion.
-/
import Derived.Test.YtaadkehopfjclaaMore
import Derived.MapKept
namespace Go.Proofs.Ytaadkehopfjclaa
open Go.RowKit Go.MapKept
/-- Block m is a map whose entries are these. -/
def Mp (d : TypeDesc) (w : World) (m : Nat) (L : List (Value × Value)) : Prop := ∃ es clock, w.heap[m]? = some (.map es clock) ∧ es.toList.map (fun e => (e.key, e.val)) = L ∧ Stamped es clock ∧ ∀ x ∈ L, IsKey d x.1
section
variable {d : TypeDesc} {w w' : World} {m : Nat} {L : List (Value × Value)}
theorem Mp.lt (h : Mp d w m L) : m < w.heap.size := by
  obtain ⟨es, c, h, _⟩ := h
  exact (Array.getElem?_eq_some_iff.1 h).1
theorem Mp.same (h : Mp d w m L) (hb : w'.heap[m]? = w.heap[m]?) : Mp d w' m L := by
  obtain ⟨es, c, h1, h2⟩ := h
  exact ⟨es, c, hb.trans h1, h2⟩
theorem Mp.below (h : Mp d w m L) (hb : Below w.heap.size w w') : Mp d w' m L := h.same (hb.block m h.lt)
theorem Mp.drew (h : Mp d w m L) : Mp d w.drew m L := h
theorem Mp.alloc (h : Mp d w m L) (o : Obj) : Mp d (w.alloc o) m L := h.same (Below.heap_alloc w o m h.lt)
theorem Mp.mod {M : Nat → Prop} (h : Mp d w m L) (hm : Mod M w w') (hM : ¬ M m) : Mp d w' m L := h.same (hm.block m h.lt hM)
theorem Mp.new (d : TypeDesc) (w : World) : Mp d (w.alloc (.map #[] 0)) w.heap.size [] := ⟨#[], 0, (MapKept.heap_alloc w _).1, rfl, stamped_empty 0, by simp⟩
theorem Mp.keys (h : Mp d w m L) : ∀ x ∈ L, IsKey d x.1 := by
  obtain ⟨_, _, _, _, _, h⟩ := h
  exact h
theorem Mp.apart (h : Mp d w m L) : L.Pairwise (fun x y => x.1 ≠ y.1) := by
  obtain ⟨es, c, _, h2, h3, _⟩ := h
  rw [← h2, List.pairwise_map]
  exact ((stamped_iff es c).1 h3).2.2
/-- No block of cells. -/
theorem Mp.notAt {t : TypeId} {cs : Array Value} {g : Nat} (h : Mp d w m L) (hg : At w g t cs) : g ≠ m := by
  obtain ⟨es, c, h1, _⟩ := h
  rintro rfl
  unfold At at hg
  rw [h1] at hg
  cases hg
variable {P : Program} {t k e : TypeId}
theorem Mp.find (h : Mp d w m L) {key : Value} (hk : IsKey d key) : ∃ es clock, w.heap[m]? = some (.map es clock) ∧ es.toList.map (fun e => (e.key, e.val)) = L ∧ Stamped es clock ∧
    ((Instr.findNow d key es.toList 0 = some none ∧ ∀ x ∈ L, x.1 ≠ key) ∨ ∃ j v, Instr.findNow d key es.toList 0 = some (some (j, v)) ∧ L[j]? = some (key, v)) := by
  obtain ⟨es, c, h1, h2, h3, h4⟩ := h
  refine ⟨es, c, h1, h2, h3, ?_⟩
  rcases findNow_spec hk es.toList 0 (fun x hx => h4 (x.key, x.val) (h2 ▸ List.mem_map_of_mem hx)) with ⟨a, b⟩ | ⟨j, e, a, b, c⟩
  · refine .inl ⟨a, fun x hx => ?_⟩
    rw [← h2] at hx
    obtain ⟨y, hy, rfl⟩ := List.mem_map.1 hx
    exact b y hy
  · refine .inr ⟨j, e.val, by rw [a, Nat.zero_add], ?_⟩
    rw [← h2, List.getElem?_map, b, ← c]; rfl
theorem Mp.uniq (h : Mp d w m L) {key u v : Value} (h1 : (key, u) ∈ L) (h2 : (key, v) ∈ L) : u = v := by
  obtain ⟨i, hi, e1⟩ := List.getElem_of_mem h1
  obtain ⟨j, hj, e2⟩ := List.getElem_of_mem h2
  have hp := List.pairwise_iff_getElem.1 h.apart
  rcases Nat.lt_trichotomy i j with h3 | h3 | h3
  · exact absurd (by rw [e1, e2]) (hp i j hi hj h3)
  · subst h3; rw [e1] at e2; cases e2; rfl
  · exact absurd (by rw [e1, e2]) (hp j i hj hi h3)
/-- 'v, ok := m[k]', 'm[k]'. -/
theorem Mp.lookup_yes (h : Mp d w m L) (ht : P.underlying t = some (.map k e)) (hd : P.underlying k = some d) {key v : Value} (hk : IsKey d key) (hv : (key, v) ∈ L) (ok : Bool) :
    (Instr.lookup t (.map (some m)) key ok).run P w = .ok (if ok then .tuple #[v, .bool true] else v) w := by
  obtain ⟨es, c, h1, h2, _, h3⟩ := h.find hk
  rcases h3 with ⟨_, h4⟩ | ⟨j, u, h3, h4⟩
  · exact absurd rfl (h4 _ hv)
  · have : u = v := h.uniq (List.mem_of_getElem? h4) hv
    subst this
    cases ok <;> simp [Instr.lookup, run_underlying ht, MapKept.run_getObj_map h1, MapKept.run_checkKey hd hk, MapKept.run_findKey hd h3, Result.andThen]
theorem Mp.lookup_no (h : Mp d w m L) (ht : P.underlying t = some (.map k e)) (hd : P.underlying k = some d) {key z : Value} (hz : (zeroValue e).run P w = .ok z w) (hk : IsKey d key) (hv : ∀ x ∈ L, x.1 ≠ key) (ok : Bool) :
    (Instr.lookup t (.map (some m)) key ok).run P w = .ok (if ok then .tuple #[z, .bool false] else z) w := by
  obtain ⟨es, c, h1, h2, _, h3⟩ := h.find hk
  rcases h3 with ⟨h3, h4⟩ | ⟨j, u, h3, h4⟩
  · cases ok <;> simp [Instr.lookup, run_underlying ht, MapKept.run_getObj_map h1, MapKept.run_checkKey hd hk, MapKept.run_findKey hd h3, hz, Result.andThen]
  · exact absurd rfl (hv _ (List.mem_of_getElem? h4))
theorem Mp.len (h : Mp d w m L) (ht : P.underlying t = some (.map k e)) (ty : TypeId) : (Builtin.len_ #[t] ty #[.map (some m)]).run P w = .ok (.int .i64 L.length) w := by
  obtain ⟨es, c, h1, h2, _⟩ := h
  have : L.length = es.size := by rw [← h2]; simp
  simp [Builtin.len_, run_underlying ht, MapKept.run_getObj_map h1, Result.andThen, this, goInt]
theorem mod_set {m : Nat} {o : Obj} {w : World} : Mod (fun g => g = m) w { w with heap := w.heap.setIfInBounds m o } :=
  ⟨rfl, rfl, rfl, by show w.heap.size ≤ (w.heap.setIfInBounds m o).size; simp, fun i _ hi => by show (w.heap.setIfInBounds m o)[i]? = _; rw [Array.getElem?_setIfInBounds, if_neg (Ne.symm hi)]⟩
theorem size_set {m : Nat} {o : Obj} {w : World} : ({ w with heap := w.heap.setIfInBounds m o } : World).heap.size = w.heap.size := by simp
/-- 'm[k] = v', k new. -/
theorem Mp.put_new (h : Mp d w m L) (ht : P.underlying t = some (.map k e)) (hd : P.underlying k = some d) {key v : Value} (hk : IsKey d key) (hv : ∀ x ∈ L, x.1 ≠ key) :
    ∃ w', (Instr.mapUpdate t (.map (some m)) key v).run P w = .ok () w' ∧ Mp d w' m (L ++ [(key, v)]) ∧ Mod (fun g => g = m) w w' ∧ w'.heap.size = w.heap.size := by
  obtain ⟨es, c, h1, h2, hs, h3⟩ := h.find hk
  rcases h3 with ⟨h3, h4⟩ | ⟨j, u, h3, h4⟩
  · refine ⟨_, by simp [Instr.mapUpdate, run_underlying ht, MapKept.run_getObj_map h1, MapKept.run_checkKey hd hk, MapKept.run_findKey hd h3, MapKept.run_setObj_map _ h1, Result.andThen]; rfl, ⟨_, _, (MapKept.heap_set h1).1, ?_, stamped_push hs (fun x hx => h4 (x.key, x.val) (h2 ▸ List.mem_map_of_mem hx)), ?_⟩, mod_set, size_set⟩
    · simp [h2]
    · intro x hx
      rcases List.mem_append.1 hx with hx | hx
      · exact h.keys x hx
      · simp only [List.mem_singleton] at hx; subst hx; exact hk
  · exact absurd rfl (hv _ (List.mem_of_getElem? h4))
/-- 'm[k] = v', k there. -/
theorem Mp.put_old (h : Mp d w m L) (ht : P.underlying t = some (.map k e)) (hd : P.underlying k = some d) {key u v : Value} {j : Nat} (hk : IsKey d key) (hv : L[j]? = some (key, u)) :
    ∃ w', (Instr.mapUpdate t (.map (some m)) key v).run P w = .ok () w' ∧ Mp d w' m (L.set j (key, v)) ∧ Mod (fun g => g = m) w w' ∧ w'.heap.size = w.heap.size := by
  obtain ⟨es, c, h1, h2, hs, h3⟩ := h.find hk
  rcases h3 with ⟨h3, h4⟩ | ⟨j', u', h3, h4⟩
  · exact absurd rfl (h4 _ (List.mem_of_getElem? hv))
  · have hjj : j' = j := by
      obtain ⟨hi, e1⟩ := List.getElem?_eq_some_iff.1 h4
      obtain ⟨hj, e2⟩ := List.getElem?_eq_some_iff.1 hv
      have hp := List.pairwise_iff_getElem.1 h.apart
      rcases Nat.lt_trichotomy j' j with h3 | h3 | h3
      · exact absurd (by rw [e1, e2]) (hp _ _ hi hj h3)
      · exact h3
      · exact absurd (by rw [e1, e2]) (hp _ _ hj hi h3)
    subst hjj
    have hj : ∃ e0, es[j']? = some e0 ∧ e0.key = key := by
      rw [← h2, List.getElem?_map, Array.getElem?_toList] at hv
      cases he : es[j']? with
      | none => rw [he] at hv; cases hv
      | some e0 => rw [he] at hv; simp only [Option.map_some, Option.some.injEq, Prod.mk.injEq] at hv; exact ⟨e0, rfl, hv.1⟩
    obtain ⟨e0, hj, hkk⟩ := hj
    have hkey : ∀ e', es[j']? = some e' → ({ e' with key := key, val := v } : MapEntry).key = e'.key := fun e' he' => by rw [hj] at he'; cases he'; exact hkk.symm
    refine ⟨_, by simp [Instr.mapUpdate, run_underlying ht, MapKept.run_getObj_map h1, MapKept.run_checkKey hd hk, MapKept.run_findKey hd h3, hj, hkk, MapKept.run_keyThatStays hk, MapKept.run_setObj_map _ h1, Result.andThen], ⟨es.modify j' (fun e => { e with key := key, val := v }), c, (MapKept.heap_set h1).1, ?_, stamped_modify hs j' (fun e => { e with key := key, val := v }) (fun _ _ => rfl) (fun e' _ he' => hkey e' he'), ?_⟩, mod_set, size_set⟩
    · apply List.ext_getElem?
      intro i
      rw [List.getElem?_map, Array.getElem?_toList, Array.getElem?_modify, List.getElem?_set]
      by_cases hi : j' = i
      · subst hi
        rw [if_pos rfl, if_pos rfl, if_pos (List.getElem?_eq_some_iff.1 hv).1, hj]; rfl
      · rw [if_neg hi, if_neg hi, ← h2, List.getElem?_map, Array.getElem?_toList]
    · intro x hx
      rcases List.mem_or_eq_of_mem_set hx with hx | hx
      · exact h.keys x hx
      · subst hx; exact hk
/-- 'delete(m, k)', k there. -/
theorem Mp.del_yes (h : Mp d w m L) (ht : P.underlying t = some (.map k e)) (hd : P.underlying k = some d) {key v : Value} {j : Nat} (hk : IsKey d key) (hv : L[j]? = some (key, v)) (ty : TypeId) :
    ∃ w', (Builtin.delete_ #[t, k] ty #[.map (some m), key]).run P w = .ok (.tuple #[]) w' ∧ Mp d w' m (L.eraseIdx j) ∧ Mod (fun g => g = m) w w' ∧ w'.heap.size = w.heap.size := by
  obtain ⟨es, c, h1, h2, hs, h3⟩ := h.find hk
  rcases h3 with ⟨h3, h4⟩ | ⟨j', u', h3, h4⟩
  · exact absurd rfl (h4 _ (List.mem_of_getElem? hv))
  · have hjj : j' = j := by
      obtain ⟨hi, e1⟩ := List.getElem?_eq_some_iff.1 h4
      obtain ⟨hj, e2⟩ := List.getElem?_eq_some_iff.1 hv
      have hp := List.pairwise_iff_getElem.1 h.apart
      rcases Nat.lt_trichotomy j' j with h3 | h3 | h3
      · exact absurd (by rw [e1, e2]) (hp _ _ hi hj h3)
      · exact h3
      · exact absurd (by rw [e1, e2]) (hp _ _ hj hi h3)
    subst hjj
    have hjs : j' < es.size := by
      have := (List.getElem?_eq_some_iff.1 hv).1
      rw [← h2] at this; simpa using this
    refine ⟨_, by simp [Builtin.delete_, run_underlying ht, MapKept.run_getObj_map h1, MapKept.run_checkKey hd hk, MapKept.run_findKey hd h3, MapKept.run_setObj_map _ h1, Result.andThen]; rfl, ⟨_, _, (MapKept.heap_set h1).1, ?_, stamped_erase hs _, ?_⟩, mod_set, size_set⟩
    · unfold Array.eraseIdxIfInBounds
      rw [dif_pos hjs, Array.toList_eraseIdx, ← h2]
      apply List.ext_getElem?
      intro i
      rw [List.getElem?_map, List.getElem?_eraseIdx, List.getElem?_eraseIdx]
      split <;> rw [List.getElem?_map]
    · intro x hx
      exact h.keys x ((List.eraseIdx_sublist _ _).subset hx)
/-- 'delete(m, k)', k not there. -/
theorem Mp.del_no (h : Mp d w m L) (ht : P.underlying t = some (.map k e)) (hd : P.underlying k = some d) {key : Value} (hk : IsKey d key) (hv : ∀ x ∈ L, x.1 ≠ key) (ty : TypeId) :
    ∃ w', (Builtin.delete_ #[t, k] ty #[.map (some m), key]).run P w = .ok (.tuple #[]) w' ∧ Mp d w' m L ∧ Mod (fun g => g = m) w w' ∧ w'.heap.size = w.heap.size := by
  obtain ⟨es, c, h1, h2, hs, h3⟩ := h.find hk
  rcases h3 with ⟨h3, h4⟩ | ⟨j', u', h3, h4⟩
  · exact ⟨_, by simp [Builtin.delete_, run_underlying ht, MapKept.run_getObj_map h1, MapKept.run_checkKey hd hk, MapKept.run_findKey hd h3, MapKept.run_setObj_map _ h1, Result.andThen], ⟨_, _, (MapKept.heap_set h1).1, h2, hs, h.keys⟩, mod_set, size_set⟩
  · exact absurd rfl (hv _ (List.mem_of_getElem? h4))
theorem run_makeMap (P : Program) (w : World) (t : TypeId) : (Instr.makeMap t none).run P w = .ok (.map (some w.heap.size)) (w.alloc (.map #[] 0)) := by
  simp [Instr.makeMap, Result.andThen]
end
end Go.Proofs.Ytaadkehopfjclaa
