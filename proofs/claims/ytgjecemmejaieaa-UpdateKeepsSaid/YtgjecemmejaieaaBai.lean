/-
  Texts in one, each behind those that it needs: MapK, PoDip, PoChk, PoIdx, PoShare.
-/
import Derived.Test.YtgjecemmejaieaaBah
import Derived.MapKept
import Derived.Maps.Keyed
import Derived.DeepKeys4
/-
  A map of one's own, keyed by whatever is 'Keyed' (ints, strings, structs, arrays; any values): a block .map, read as a list of pairs in the order of insertion.
-/
namespace Go.Proofs.Ytgjecemmejaieaa
open Go.RowKit Go.MapKept
/-- May it be a key of this type? -/
def KeyV (P : Program) (kt : TypeId) (v : Value) : Prop := ∃ l, Go.keyOf P kt v = some l
/-- Block m is a map whose entries are these. -/
def Mk (P : Program) (kt : TypeId) (w : World) (m : Nat) (L : List (Value × Value)) : Prop := ∃ es clock, w.heap[m]? = some (.map es clock) ∧ es.toList.map (fun e => (e.key, e.val)) = L ∧ Stamped es clock ∧ ∀ x ∈ L, KeyV P kt x.1
section
variable {P : Program} {kt : TypeId} {w w' : World} {m : Nat} {L : List (Value × Value)}
theorem Mk.lt (h : Mk P kt w m L) : m < w.heap.size := by
  obtain ⟨es, c, h, _⟩ := h
  exact (Array.getElem?_eq_some_iff.1 h).1
theorem Mk.same (h : Mk P kt w m L) (hb : w'.heap[m]? = w.heap[m]?) : Mk P kt w' m L := by
  obtain ⟨es, c, h1, h2⟩ := h
  exact ⟨es, c, hb.trans h1, h2⟩
theorem Mk.below (h : Mk P kt w m L) (hb : Below w.heap.size w w') : Mk P kt w' m L := h.same (hb.block m h.lt)
theorem Mk.drew (h : Mk P kt w m L) : Mk P kt w.drew m L := h
theorem Mk.alloc (h : Mk P kt w m L) (o : Obj) : Mk P kt (w.alloc o) m L := h.same (Below.heap_alloc w o m h.lt)
theorem Mk.mod {M : Nat → Prop} (h : Mk P kt w m L) (hm : Mod M w w') (hM : ¬ M m) : Mk P kt w' m L := h.same (hm.block m h.lt hM)
theorem Mk.new (P : Program) (kt : TypeId) (w : World) : Mk P kt (w.alloc (.map #[] 0)) w.heap.size [] := ⟨#[], 0, (MapKept.heap_alloc w _).1, rfl, stamped_empty 0, by simp⟩
theorem Mk.keys (h : Mk P kt w m L) : ∀ x ∈ L, KeyV P kt x.1 := by
  obtain ⟨_, _, _, _, _, h⟩ := h
  exact h
theorem Mk.apart (h : Mk P kt w m L) : L.Pairwise (fun x y => x.1 ≠ y.1) := by
  obtain ⟨es, c, _, h2, h3, _⟩ := h
  rw [← h2, List.pairwise_map]
  exact ((stamped_iff es c).1 h3).2.2
/-- No block of cells. -/
theorem Mk.notAt {t : TypeId} {cs : Array Value} {g : Nat} (h : Mk P kt w m L) (hg : At w g t cs) : g ≠ m := by
  obtain ⟨es, c, h1, _⟩ := h
  rintro rfl
  unfold At at hg
  rw [h1] at hg
  cases hg
variable {t e : TypeId}
theorem Mk.find (h : Mk P kt w m L) {key : Value} (K : Maps.Keyed P kt) (hk : KeyV P kt key) : ∃ es clock, w.heap[m]? = some (.map es clock) ∧ es.toList.map (fun e => (e.key, e.val)) = L ∧ Stamped es clock ∧
    (∀ em, (Instr.checkKey em 10000 kt key).run P w = .ok () w) ∧ (((Instr.findKey kt key es.toList).run P w = .ok none w ∧ ∀ x ∈ L, x.1 ≠ key) ∨ ∃ j v, (Instr.findKey kt key es.toList).run P w = .ok (some (j, v)) w ∧ L[j]? = some (key, v)) := by
  obtain ⟨es, c, h1, h2, h3, h4⟩ := h
  obtain ⟨kl, hkl⟩ := hk
  refine ⟨es, c, h1, h2, h3, fun em => K.check w em hkl, ?_⟩
  rcases K.find w hkl es.toList (fun x hx => h4 (x.key, x.val) (h2 ▸ List.mem_map_of_mem hx)) with ⟨a, b⟩ | ⟨j, e, a, b, c⟩
  · refine .inl ⟨a, fun x hx => ?_⟩
    rw [← h2] at hx
    obtain ⟨y, hy, rfl⟩ := List.mem_map.1 hx
    exact b y hy
  · refine .inr ⟨j, e.val, a, ?_⟩
    rw [← h2, List.getElem?_map, b, ← c]; rfl
theorem Mk.uniq (h : Mk P kt w m L) {key u v : Value} (h1 : (key, u) ∈ L) (h2 : (key, v) ∈ L) : u = v := by
  obtain ⟨i, hi, e1⟩ := List.getElem_of_mem h1
  obtain ⟨j, hj, e2⟩ := List.getElem_of_mem h2
  have hp := List.pairwise_iff_getElem.1 h.apart
  rcases Nat.lt_trichotomy i j with h3 | h3 | h3
  · exact absurd (by rw [e1, e2]) (hp i j hi hj h3)
  · subst h3; rw [e1] at e2; cases e2; rfl
  · exact absurd (by rw [e1, e2]) (hp j i hj hi h3)
/-- 'v, ok := m[k]', 'm[k]'. -/
theorem Mk.lookup_yes (h : Mk P kt w m L) (ht : P.underlying t = some (.map kt e)) {key v : Value} (K : Maps.Keyed P kt) (hk : KeyV P kt key) (hv : (key, v) ∈ L) (ok : Bool) :
    (Instr.lookup t (.map (some m)) key ok).run P w = .ok (if ok then .tuple #[v, .bool true] else v) w := by
  obtain ⟨es, c, h1, h2, _, hc, h3⟩ := h.find K hk
  rcases h3 with ⟨_, h4⟩ | ⟨j, u, h3, h4⟩
  · exact absurd rfl (h4 _ hv)
  · have : u = v := h.uniq (List.mem_of_getElem? h4) hv
    subst this
    cases ok <;> simp [Instr.lookup, run_underlying ht, MapKept.run_getObj_map h1, hc, h3, Result.andThen]
theorem Mk.lookup_no (h : Mk P kt w m L) (ht : P.underlying t = some (.map kt e)) {key z : Value} (hz : (zeroValue e).run P w = .ok z w) (K : Maps.Keyed P kt) (hk : KeyV P kt key) (hv : ∀ x ∈ L, x.1 ≠ key) (ok : Bool) :
    (Instr.lookup t (.map (some m)) key ok).run P w = .ok (if ok then .tuple #[z, .bool false] else z) w := by
  obtain ⟨es, c, h1, h2, _, hc, h3⟩ := h.find K hk
  rcases h3 with ⟨h3, h4⟩ | ⟨j, u, h3, h4⟩
  · cases ok <;> simp [Instr.lookup, run_underlying ht, MapKept.run_getObj_map h1, hc, h3, hz, Result.andThen]
  · exact absurd rfl (hv _ (List.mem_of_getElem? h4))
theorem Mk.len (h : Mk P kt w m L) (ht : P.underlying t = some (.map kt e)) (ty : TypeId) : (Builtin.len_ #[t] ty #[.map (some m)]).run P w = .ok (.int .i64 L.length) w := by
  obtain ⟨es, c, h1, h2, _⟩ := h
  have : L.length = es.size := by rw [← h2]; simp
  simp [Builtin.len_, run_underlying ht, MapKept.run_getObj_map h1, Result.andThen, this, goInt]
theorem mod_set {m : Nat} {o : Obj} {w : World} : Mod (fun g => g = m) w { w with heap := w.heap.setIfInBounds m o } :=
  ⟨rfl, rfl, rfl, by show w.heap.size ≤ (w.heap.setIfInBounds m o).size; simp, fun i _ hi => by show (w.heap.setIfInBounds m o)[i]? = _; rw [Array.getElem?_setIfInBounds, if_neg (Ne.symm hi)]⟩
theorem size_set {m : Nat} {o : Obj} {w : World} : ({ w with heap := w.heap.setIfInBounds m o } : World).heap.size = w.heap.size := by simp
/-- 'm[k] = v', k new. -/
theorem Mk.put_new (h : Mk P kt w m L) (ht : P.underlying t = some (.map kt e)) {key v : Value} (K : Maps.Keyed P kt) (hk : KeyV P kt key) (hv : ∀ x ∈ L, x.1 ≠ key) :
    ∃ w', (Instr.mapUpdate t (.map (some m)) key v).run P w = .ok () w' ∧ Mk P kt w' m (L ++ [(key, v)]) ∧ Mod (fun g => g = m) w w' ∧ w'.heap.size = w.heap.size := by
  obtain ⟨es, c, h1, h2, hs, hc, h3⟩ := h.find K hk
  rcases h3 with ⟨h3, h4⟩ | ⟨j, u, h3, h4⟩
  · refine ⟨_, by simp [Instr.mapUpdate, run_underlying ht, MapKept.run_getObj_map h1, hc, h3, MapKept.run_setObj_map _ h1, Result.andThen]; rfl, ⟨_, _, (MapKept.heap_set h1).1, ?_, stamped_push hs (fun x hx => h4 (x.key, x.val) (h2 ▸ List.mem_map_of_mem hx)), ?_⟩, mod_set, size_set⟩
    · simp [h2]
    · intro x hx
      rcases List.mem_append.1 hx with hx | hx
      · exact h.keys x hx
      · simp only [List.mem_singleton] at hx; subst hx; exact hk
  · exact absurd rfl (hv _ (List.mem_of_getElem? h4))
/-- 'm[k] = v', k there. -/
theorem Mk.put_old (h : Mk P kt w m L) (ht : P.underlying t = some (.map kt e)) {key u v : Value} {j : Nat} (K : Maps.Keyed P kt) (hk : KeyV P kt key) (hv : L[j]? = some (key, u)) :
    ∃ w', (Instr.mapUpdate t (.map (some m)) key v).run P w = .ok () w' ∧ Mk P kt w' m (L.set j (key, v)) ∧ Mod (fun g => g = m) w w' ∧ w'.heap.size = w.heap.size := by
  obtain ⟨es, c, h1, h2, hs, hc, h3⟩ := h.find K hk
  rcases h3 with ⟨h3, h4⟩ | ⟨j', u', h3, h4⟩
  · exact absurd rfl (h4 _ (List.mem_of_getElem? hv))
  · have hjj : j' = j := by
      obtain ⟨hi, e1⟩ := List.getElem?_eq_some_iff.1 h4
      obtain ⟨hj, e2⟩ := List.getElem?_eq_some_iff.1 hv
      have hp := List.pairwise_iff_getElem.1 h.apart
      rcases Nat.lt_trichotomy j' j with h3 | h3 | h3
      · exact absurd (by rw [e1, e2]) (hp _ _ hi hj h3)
      · exact h3
      · exact absurd (by rw [e1, e2]) (hp _ _ hj hi h3)
    subst hjj
    have hj : ∃ e0, es[j']? = some e0 ∧ e0.key = key := by
      rw [← h2, List.getElem?_map, Array.getElem?_toList] at hv
      cases he : es[j']? with
      | none => rw [he] at hv; cases hv
      | some e0 => rw [he] at hv; simp only [Option.map_some, Option.some.injEq, Prod.mk.injEq] at hv; exact ⟨e0, rfl, hv.1⟩
    obtain ⟨e0, hj, hkk⟩ := hj
    have hkey : ∀ e', es[j']? = some e' → ({ e' with key := key, val := v } : MapEntry).key = e'.key := fun e' he' => by rw [hj] at he'; cases he'; exact hkk.symm
    refine ⟨_, by simp [Instr.mapUpdate, run_underlying ht, MapKept.run_getObj_map h1, hc, h3, hj, hkk, K.stays w hk.choose_spec, MapKept.run_setObj_map _ h1, Result.andThen], ⟨es.modify j' (fun e => { e with key := key, val := v }), c, (MapKept.heap_set h1).1, ?_, stamped_modify hs j' (fun e => { e with key := key, val := v }) (fun _ _ => rfl) (fun e' _ he' => hkey e' he'), ?_⟩, mod_set, size_set⟩
    · apply List.ext_getElem?
      intro i
      rw [List.getElem?_map, Array.getElem?_toList, Array.getElem?_modify, List.getElem?_set]
      by_cases hi : j' = i
      · subst hi
        rw [if_pos rfl, if_pos rfl, if_pos (List.getElem?_eq_some_iff.1 hv).1, hj]; rfl
      · rw [if_neg hi, if_neg hi, ← h2, List.getElem?_map, Array.getElem?_toList]
    · intro x hx
      rcases List.mem_or_eq_of_mem_set hx with hx | hx
      · exact h.keys x hx
      · subst hx; exact hk
/-- 'delete(m, k)', k there. -/
theorem Mk.del_yes (h : Mk P kt w m L) (ht : P.underlying t = some (.map kt e)) {key v : Value} {j : Nat} (K : Maps.Keyed P kt) (hk : KeyV P kt key) (hv : L[j]? = some (key, v)) (ty : TypeId) :
    ∃ w', (Builtin.delete_ #[t, kt] ty #[.map (some m), key]).run P w = .ok (.tuple #[]) w' ∧ Mk P kt w' m (L.eraseIdx j) ∧ Mod (fun g => g = m) w w' ∧ w'.heap.size = w.heap.size := by
  obtain ⟨es, c, h1, h2, hs, hc, h3⟩ := h.find K hk
  rcases h3 with ⟨h3, h4⟩ | ⟨j', u', h3, h4⟩
  · exact absurd rfl (h4 _ (List.mem_of_getElem? hv))
  · have hjj : j' = j := by
      obtain ⟨hi, e1⟩ := List.getElem?_eq_some_iff.1 h4
      obtain ⟨hj, e2⟩ := List.getElem?_eq_some_iff.1 hv
      have hp := List.pairwise_iff_getElem.1 h.apart
      rcases Nat.lt_trichotomy j' j with h3 | h3 | h3
      · exact absurd (by rw [e1, e2]) (hp _ _ hi hj h3)
      · exact h3
      · exact absurd (by rw [e1, e2]) (hp _ _ hj hi h3)
    subst hjj
    have hjs : j' < es.size := by
      have := (List.getElem?_eq_some_iff.1 hv).1
      rw [← h2] at this; simpa using this
    refine ⟨_, by simp [Builtin.delete_, run_underlying ht, MapKept.run_getObj_map h1, hc, h3, MapKept.run_setObj_map _ h1, Result.andThen]; rfl, ⟨_, _, (MapKept.heap_set h1).1, ?_, stamped_erase hs _, ?_⟩, mod_set, size_set⟩
    · unfold Array.eraseIdxIfInBounds
      rw [dif_pos hjs, Array.toList_eraseIdx, ← h2]
      apply List.ext_getElem?
      intro i
      rw [List.getElem?_map, List.getElem?_eraseIdx, List.getElem?_eraseIdx]
      split <;> rw [List.getElem?_map]
    · intro x hx
      exact h.keys x ((List.eraseIdx_sublist _ _).subset hx)
/-- 'delete(m, k)', k not there. -/
theorem Mk.del_no (h : Mk P kt w m L) (ht : P.underlying t = some (.map kt e)) {key : Value} (K : Maps.Keyed P kt) (hk : KeyV P kt key) (hv : ∀ x ∈ L, x.1 ≠ key) (ty : TypeId) :
    ∃ w', (Builtin.delete_ #[t, kt] ty #[.map (some m), key]).run P w = .ok (.tuple #[]) w' ∧ Mk P kt w' m L ∧ Mod (fun g => g = m) w w' ∧ w'.heap.size = w.heap.size := by
  obtain ⟨es, c, h1, h2, hs, hc, h3⟩ := h.find K hk
  rcases h3 with ⟨h3, h4⟩ | ⟨j', u', h3, h4⟩
  · exact ⟨_, by simp [Builtin.delete_, run_underlying ht, MapKept.run_getObj_map h1, hc, h3, MapKept.run_setObj_map _ h1, Result.andThen], ⟨_, _, (MapKept.heap_set h1).1, h2, hs, h.keys⟩, mod_set, size_set⟩
  · exact absurd rfl (hv _ (List.mem_of_getElem? h4))
theorem run_makeMap (P : Program) (w : World) (t : TypeId) : (Instr.makeMap t none).run P w = .ok (.map (some w.heap.size)) (w.alloc (.map #[] 0)) := by
  simp [Instr.makeMap, Result.andThen]
end
end Go.Proofs.Ytgjecemmejaieaa

/-
  Servers and members of a pool: their cells.
-/
namespace Go.Proofs.Ytgjecemmejaieaa
open Go.RowKit
structure Dp where
  a : Adr
  port : Nat
  hp : port < 65536
def Dp.l (d : Dp) : List Value := d.a.l ++ [.int .u16 d.port]
def dc (d : Dp) : Array Value := d.l.toArray
structure Mb where
  d : Dp
  w : Int
def Mb.l (m : Mb) : List Value := m.d.l ++ [.int .i64 m.w]
def mc (m : Mb) : Array Value := m.l.toArray
theorem Dp.l_length (d : Dp) : d.l.length = 18 := by simp [Dp.l, Adr.l_length]
theorem Mb.l_length (m : Mb) : m.l.length = 19 := by simp [Mb.l, Dp.l_length]
@[go_sem] theorem dc_size (d : Dp) : (dc d).size = 18 := d.l_length
@[go_sem] theorem mc_size (m : Mb) : (mc m).size = 19 := m.l_length
theorem dl_get (d : Dp) (j : Nat) : (dc d)[j]? = d.l[j]? := by simp [dc]
theorem ml_get (m : Mb) (j : Nat) : (mc m)[j]? = m.l[j]? := by simp [mc]
theorem ml_dip (m : Mb) (j : Nat) (h : j < 18) : (mc m)[j]? = (dc m.d)[j]? := by
  have := m.d.l_length
  rw [ml_get, dl_get, Mb.l, List.getElem?_append_left (by omega)]
theorem dl_adr (d : Dp) (j : Nat) (h : j < 17) : (dc d)[j]? = (ac d.a)[j]? := by
  have := d.a.l_length
  rw [dl_get, ac_get, Dp.l, List.getElem?_append_left (by omega)]
theorem mc_18? (m : Mb) : (mc m)[18]? = some (.int .i64 m.w) := by
  have := m.d.l_length
  rw [ml_get, Mb.l, List.getElem?_append_right (by omega), this]; rfl
theorem dc_17? (d : Dp) : (dc d)[17]? = some (.int .u16 d.port) := by
  have := d.a.l_length
  rw [dl_get, Dp.l, List.getElem?_append_right (by omega), this]; rfl
@[go_sem] theorem mc_18 (m : Mb) (h : 18 < (mc m).size) : (mc m)[18] = .int .i64 m.w := get_of (mc_18? m) h
@[go_sem] theorem dc_17 (d : Dp) (h : 17 < (dc d).size) : (dc d)[17] = .int .u16 d.port := get_of (dc_17? d) h
@[go_sem] theorem mc_dip (m : Mb) : (mc m).extract 0 18 = dc m.d := ext_of (a := 0) (n := 18) (dc_size _) (by rw [mc_size]; omega) fun j hj => ml_dip m j hj
@[go_sem] theorem mc_adr (m : Mb) : (mc m).extract 0 17 = ac m.d.a := ext_of (a := 0) (n := 17) (ac_size _) (by rw [mc_size]; omega) fun j hj => by rw [Nat.add_zero, ml_dip m j (by omega), dl_adr m.d j hj]
@[go_sem] theorem dc_adr (d : Dp) : (dc d).extract 0 17 = ac d.a := ext_of (a := 0) (n := 17) (ac_size _) (by rw [dc_size]; omega) fun j hj => by rw [Nat.add_zero, dl_adr d j hj]
@[go_sem] theorem mc_all (m : Mb) : (mc m).extract 0 19 = mc m := ext_of (a := 0) (n := 19) (mc_size _) (by rw [mc_size]; omega) fun j _ => rfl
@[go_sem] theorem dc_all (d : Dp) : (dc d).extract 0 18 = dc d := ext_of (a := 0) (n := 18) (dc_size _) (by rw [dc_size]; omega) fun j _ => rfl
theorem u8s_inj : ∀ {a b : List Nat}, u8s a = u8s b → a = b
  | [], [], _ => rfl
  | [], _ :: _, h => by simp [u8s] at h
  | _ :: _, [], h => by simp [u8s] at h
  | x :: a, y :: b, h => by
    simp only [u8s, List.map_cons, List.cons.injEq, Value.int.injEq, true_and] at h
    rw [u8s_inj h.2, show x = y by omega]
theorem Adr.inj {a b : Adr} (h : a.l = b.l) : a = b := by
  obtain ⟨v, l, h1, h2⟩ := a
  obtain ⟨v', l', h1', h2'⟩ := b
  simp only [Adr.l, List.cons.injEq, Value.bool.injEq] at h
  obtain rfl := h.1
  obtain rfl := u8s_inj h.2
  rfl
theorem Dp.inj {a b : Dp} (h : dc a = dc b) : a = b := by
  have h := congrArg Array.toList h
  simp only [dc, Dp.l] at h
  obtain ⟨h1, h2⟩ := List.append_inj h (by rw [Adr.l_length, Adr.l_length])
  obtain ⟨x, p, hp⟩ := a
  obtain ⟨y, q, hq⟩ := b
  obtain rfl := Adr.inj h1
  simp only [List.cons.injEq, Value.int.injEq, true_and, and_true] at h2
  obtain rfl : p = q := by omega
  rfl
instance : DecidableEq Dp := fun a b => if h : a.a.v6 = b.a.v6 ∧ a.a.b = b.a.b ∧ a.port = b.port then .isTrue (by
  obtain ⟨⟨v, l, h1, h2⟩, p, hp⟩ := a
  obtain ⟨⟨v', l', h1', h2'⟩, p', hp'⟩ := b
  simp only at h
  obtain ⟨rfl, rfl, rfl⟩ := h
  rfl) else .isFalse (fun e => h (by rw [e]; exact ⟨rfl, rfl, rfl⟩))
theorem sizeDp : (Try.prog.info? 88).map (·.size) = some 18 := by kernel_rfl
theorem sizeMb : (Try.prog.info? 108).map (·.size) = some 19 := by kernel_rfl
theorem loadDp (x : Operand) (dst : Option Tmp) (t : TypeId) (pos : String) (after : Array Edge) (g : Option (Nat × Bool)) (f : Operand → Value) (w : World)
    (hx : plainPtr (f x) = true) (ho : aggOk w (blk (f x)) (offOf (f x)) 18 = true) :
    (execOp f ⟨dst, .load 88 x, t, pos, after, g⟩).run Try.prog w = .ok (.value (.agg (aggAt w (blk (f x)) (offOf (f x)) 18))) w :=
  exec_load_agg 88 _ 18 Try.underlying88 rfl sizeDp x dst t pos after g f w hx ho
theorem loadMb (x : Operand) (dst : Option Tmp) (t : TypeId) (pos : String) (after : Array Edge) (g : Option (Nat × Bool)) (f : Operand → Value) (w : World)
    (hx : plainPtr (f x) = true) (ho : aggOk w (blk (f x)) (offOf (f x)) 19 = true) :
    (execOp f ⟨dst, .load 108 x, t, pos, after, g⟩).run Try.prog w = .ok (.value (.agg (aggAt w (blk (f x)) (offOf (f x)) 19))) w :=
  exec_load_agg 108 _ 19 Try.underlying108 rfl sizeMb x dst t pos after g f w hx ho
attribute [go_sem ↓] loadDp loadMb
theorem laidD : laidOutB Try.prog = true := by kernel_rfl
/-- Servers as keys. -/
theorem dipLaw : WideMaps.KeyLaw Try.prog 88 := deep_law_laid laidD (m := 5) (by omega) (of_decide_eq_true (by kernel_rfl)) (by kernel_rfl) (by kernel_rfl)
theorem dipKeyed : Maps.Keyed Try.prog 88 := Maps.Keyed.of_law dipLaw
theorem mapM_ex {α β : Type} {f : α → Option β} : ∀ (l : List α), (∀ x ∈ l, ∃ y, f x = some y) → ∃ ys, l.mapM f = some ys
  | [], _ => ⟨[], rfl⟩
  | x :: r, h => by
    obtain ⟨y, hy⟩ := h x (by simp)
    obtain ⟨ys, hys⟩ := mapM_ex r fun z hz => h z (by simp [hz])
    exact ⟨y :: ys, by simp [List.mapM_cons, hy, hys]⟩
theorem kl_int {P : Program} {t : TypeId} {q : IntKind} (hu : P.underlying t = some (.int q)) (D : Nat) {n : Int} (hw : (Lit.int q n).wf = true) : ∃ l, P.keyLits (D + 1) t [.int q n] = some l := ⟨_, by unfold Program.keyLits; rw [hu]; simp [hw]; rfl⟩
theorem kl_bool {P : Program} {t : TypeId} (hu : P.underlying t = some .bool) (D : Nat) (b : Bool) : ∃ l, P.keyLits (D + 1) t [.bool b] = some l := ⟨_, by unfold Program.keyLits; rw [hu]⟩
theorem kl_arr {P : Program} {t e : TypeId} {n : Nat} (hu : P.underlying t = some (.array n e)) (D : Nat) {cs : List Value} (hl : cs.length = P.cellsOf t) (h : ∀ i, i < n → ∃ l, P.keyLits D e ((cs.drop (i * P.cellsOf e)).take (P.cellsOf e)) = some l) : ∃ l, P.keyLits (D + 1) t cs = some l := by
  obtain ⟨ys, hys⟩ := mapM_ex (f := fun i => P.keyLits D e ((cs.drop (i * P.cellsOf e)).take (P.cellsOf e))) (List.range n) (fun i hi => h i (List.mem_range.1 hi))
  exact ⟨ys.flatten, by unfold Program.keyLits; rw [hu]; simp [hl, hys]⟩
theorem kl_struct {P : Program} {t : TypeId} {fs : Array Field} (hu : P.underlying t = some (.struct fs)) (D : Nat) {cs : List Value} (hl : cs.length = P.cellsOf t) (hn : fs.all (·.name != "_") = true) (h : ∀ f ∈ fs.toList, ∃ l, P.keyLits D f.type ((cs.drop f.offset).take (P.cellsOf f.type)) = some l) : ∃ l, P.keyLits (D + 1) t cs = some l := by
  obtain ⟨ys, hys⟩ := mapM_ex (f := fun f : Field => P.keyLits D f.type ((cs.drop f.offset).take (P.cellsOf f.type))) fs.toList h
  exact ⟨ys.flatten, by unfold Program.keyLits; rw [hu]; simp only [hl, hn, and_self, if_true, hys]; rfl⟩
theorem wf_u8' {n : Nat} (h : n < 256) : (Lit.int .u8 (n : Int)).wf = true := by simp [Lit.wf, IntKind.min, IntKind.max, IntKind.signed, IntKind.bits]; omega
theorem wf_u16' {n : Nat} (h : n < 65536) : (Lit.int .u16 (n : Int)).wf = true := by simp [Lit.wf, IntKind.min, IntKind.max, IntKind.signed, IntKind.bits]; omega
theorem cellsA : Try.prog.cellsOf 30 = 17 := by kernel_rfl
theorem cellsDp : Try.prog.cellsOf 88 = 18 := by kernel_rfl
theorem cells16 : Try.prog.cellsOf 28 = 16 := by kernel_rfl
theorem cellsBool : Try.prog.cellsOf 4 = 1 := by kernel_rfl
theorem cellsU16 : Try.prog.cellsOf 55 = 1 := by kernel_rfl
theorem key_bytes (b : List Nat) (hl : b.length = 16) (hb : ∀ x ∈ b, x < 256) (D : Nat) : ∃ l, Try.prog.keyLits (D + 2) 28 (u8s b) = some l := by
  refine kl_arr Try.underlying28 (D + 1) (by rw [u8s_length, hl, cells16]) fun i hi => ?_
  rw [cellsU8, Nat.mul_one]
  have : ((u8s b).drop i).take 1 = [.int .u8 (b[i]'(by omega) : Nat)] := by
    rw [List.drop_eq_getElem_cons (by rw [u8s_length]; omega)]
    simp [u8s]
  rw [this]
  exact kl_int Try.underlying5 D (wf_u8' (hb _ (List.getElem_mem _)))
theorem key_adr (a : Adr) (D : Nat) : ∃ l, Try.prog.keyLits (D + 3) 30 a.l = some l := by
  refine kl_struct Try.underlying30 (D + 2) (by rw [Adr.l_length, cellsA]) (by kernel_rfl) fun f hf => ?_
  simp only [List.mem_cons, List.not_mem_nil, or_false] at hf
  rcases hf with rfl | rfl
  · simp only [cellsBool, Adr.l]
    exact kl_bool Try.underlying4 (D + 1) a.v6
  · simp only [cells16, Adr.l]
    have : ((Value.bool a.v6 :: u8s a.b).drop 1).take 16 = u8s a.b := by
      rw [List.drop_succ_cons, List.drop_zero, List.take_of_length_le (by rw [u8s_length, a.len]; exact Nat.le_refl _)]
    rw [this]
    exact key_bytes a.b a.len a.lt D
theorem key_dip (d : Dp) : KeyV Try.prog 88 (.agg (dc d)) := by
  have h : ∃ l, Try.prog.keyLits (Try.prog.types.size + 1) 88 d.l = some l := by
    obtain ⟨D, hD⟩ : ∃ D, Try.prog.types.size + 1 = D + 4 := ⟨Try.prog.types.size - 3, by have : 3 ≤ Try.prog.types.size := of_decide_eq_true (by kernel_rfl); omega⟩
    rw [hD]
    refine kl_struct Try.underlying88 (D + 3) (by rw [Dp.l_length, cellsDp]) (by kernel_rfl) fun f hf => ?_
    simp only [List.mem_cons, List.not_mem_nil, or_false] at hf
    rcases hf with rfl | rfl
    · simp only [cellsA, Dp.l]
      have : ((d.a.l ++ [Value.int .u16 (d.port : Nat)]).drop 0).take 17 = d.a.l := by
        rw [List.drop_zero, List.take_append_of_le_length (by rw [Adr.l_length]; exact Nat.le_refl _), List.take_of_length_le (by rw [Adr.l_length]; exact Nat.le_refl _)]
      rw [this]
      exact key_adr d.a D
    · simp only [cellsU16, Dp.l]
      have : ((d.a.l ++ [Value.int .u16 (d.port : Nat)]).drop 17).take 1 = [.int .u16 (d.port : Nat)] := by
        rw [List.drop_append_of_le_length (by rw [Adr.l_length]; exact Nat.le_refl _), List.drop_of_length_le (by rw [Adr.l_length]; exact Nat.le_refl _)]; rfl
      rw [this]
      exact kl_int Try.underlying55 (D + 2) (wf_u16' d.hp)
  obtain ⟨l, hl⟩ := h
  refine ⟨.string (keyBytes l), ?_⟩
  unfold Go.keyOf
  have e1 : Try.prog.keyType 88 = true := by kernel_rfl
  have e2 : (Value.agg (dc d)).formed Try.prog 88 = true := by
    simp only [Value.formed, Try.underlying88, dc_size, cellsDp]; rfl
  rw [Try.underlying88]
  simp only [e1, e2, Bool.and_self, if_true]
  rw [show (Value.agg (dc d)).cells.toList = d.l by simp [Value.cells, dc], hl]; rfl
end Go.Proofs.Ytgjecemmejaieaa

/-
  slots.Check.
-/
namespace Go.Proofs.Ytgjecemmejaieaa
open Go.RowKit
/-- May a member come behind these servers? -/
def mStep (met : List Dp) (x : Mb) : Bool := vld x.d.a && !decide (x.d ∈ met) && decide (1 ≤ x.w) && decide (x.w ≤ 16)
def mGo : List Dp → List Mb → Bool
  | _, [] => true
  | met, x :: r => mStep met x && mGo (met ++ [x.d]) r
/-- May the members be? -/
def mOk (L : List Mb) : Bool := decide (L.length ≤ 32) && mGo [] L
/-- What Check tells of them. -/
def mChk (L : List Mb) : Int := if mOk L = true then 0 else 1
theorem mChk_yes {L : List Mb} (h : mOk L = true) : mChk L = 0 := by unfold mChk; rw [if_pos h]
theorem mChk_no {L : List Mb} (h : mOk L = false) : mChk L = 1 := by unfold mChk; rw [h]; rfl
def metV (L : List Mb) : List (Value × Value) := L.map fun x => (.agg (dc x.d), .bool true)
theorem mc_one (m : Mb) : (mc m).all (·.oneCell') = true := by
  rw [Array.all_eq_true']
  intro v hv
  have hv : v ∈ m.l := by simpa [mc] using hv
  simp only [Mb.l, Dp.l, Adr.l, List.mem_append, List.mem_cons, List.not_mem_nil, or_false] at hv
  rcases hv with ((rfl | hv) | rfl) | rfl
  · rfl
  · obtain ⟨x, _, rfl⟩ := List.mem_map.1 hv; rfl
  · rfl
  · rfl
theorem Mb.len (m : Mb) : m.l.length = 19 := m.l_length
theorem metT : Try.prog.underlying 139 = some (.map 88 4) := by kernel_rfl
theorem zeroBl (w : World) : (zeroValue 4).run Try.prog w = .ok (.bool false) w := by
  have h : (Try.prog.info? 4).map (fun i => (i.zero, i.size, i.bytes)) = some (some (.bool false), 1, 1) := by kernel_rfl
  obtain ⟨i0, hi0, hz0, -, -⟩ := info_parts h
  simp [zeroValue, typeInfo, hi0, hz0, Result.andThen]
set_option maxRecDepth 100000 in
set_option maxHeartbeats 4000000 in
theorem mcheck_any (a : Option Addr) (n c : Nat) (L : List Mb) (w : World) (h : Rd 19 Mb.l w a n L) :
    Calls Try.prog 49 #[.slice a n c] w fun e w' => e = .returned (.int .i64 (mChk L)) ∧ Below w.heap.size w w' := by
  have HR := Lib.hid h
  have HL := Lib.hid h.1
  by_cases hn : 32 < n
  · have hk := Lib.hid (mChk_no (L := L) (by unfold mOk; rw [h.1, decide_eq_false (by omega)]; rfl))
    have hnz : (32 : Int) < (n : Int) := by omega
    clear h
    go_enter Try.func49, Try.ntmps49
    go_wp2_with fail
    go_ret
    exact ⟨by rw [hk.out]; rfl, Below.refl _ _⟩
  · have hnz : decide ((32 : Int) < (n : Int)) = false := by simp; omega
    have hk := Lib.hid (show mOk L = mGo [] L by unfold mOk; rw [h.1, decide_eq_true (by omega)]; rfl)
    have hmm := fun w => run_makeMap Try.prog w 139
    clear h
    go_enter Try.func49, Try.ntmps49
    go_wp2_with fail
    clear hmm
    obtain ⟨m, hm⟩ : ∃ m, m = w.heap.size := ⟨_, rfl⟩
    rw [← hm]
    have HM := Lib.hid (show Mk Try.prog 88 (w.alloc (.map #[] 0)) m [] by rw [hm]; exact Mk.new _ _ w)
    have HB := Lib.hid ((Below.refl w.heap.size w).alloc (Nat.le_refl _) (.map #[] 0))
    have HMB := Lib.hid (show w.heap.size ≤ m by omega)
    clear hm
    generalize w.alloc (.map #[] 0) = W at *
    go_loopw [5, 12] (fun _ s12 wr => ∃ j : Nat, s12 = .int .i64 (j : Nat) ∧ j ≤ n ∧ Mk Try.prog 88 wr m (metV (L.take j)) ∧ Below w.heap.size w wr ∧ mOk L = mGo ((L.take j).map (·.d)) (L.drop j)) (fun _ s12 _ => n - (intOf s12).toNat)
    case atStart => exact ⟨0, rfl, Nat.zero_le _, HM.out, HB.out, hk.out⟩
    case round =>
      clear HM HB hk
      obtain ⟨j, rfl, hj, hm, hb, hk⟩ := hrel
      have HM := Lib.hid hm
      have HB := Lib.hid hb
      have HK := Lib.hid hk
      clear hm hb hk
      by_cases hlt : j < n
      · have hltz : (j : Int) < (n : Int) := by omega
        obtain ⟨x, hx⟩ : ∃ x, L[j]? = some x := ⟨_, List.getElem?_eq_getElem (by have := HL.out; omega)⟩
        have hdrop : L.drop j = x :: L.drop (j + 1) := by
          obtain ⟨hl, e⟩ := List.getElem?_eq_some_iff.1 hx
          rw [← e]; exact List.drop_eq_getElem_cons hl
        have htake : L.take (j + 1) = L.take j ++ [x] := by rw [List.take_add_one, hx]; rfl
        have HX := Lib.hid hx
        have HTK := Lib.hid htake
        have HK2 := Lib.hid (show mOk L = (mStep ((L.take j).map (·.d)) x && mGo ((L.take (j + 1)).map (·.d)) (L.drop (j + 1))) by rw [HK.out, hdrop, htake, List.map_append]; rfl)
        obtain ⟨b, o, rfl, hbl, ha, hao⟩ := (HR.out.below HB.out).agg Mb.len hx
        rw [show (Mb.l x).toArray = mc x from rfl] at ha
        have hst := fun (w : World) (n : Nat) (Z : Array Value) (hn : n = w.heap.size) (hZ : Z.size = 19) => store_new (P := Try.prog) sizeMb w n Z (mc x) hn hZ (mc_size _) (mc_one _)
        clear hdrop htake hx HK
        go_upto_region 7 with fail
        obtain ⟨bx, hbx⟩ : ∃ bx, bx = wr.heap.size := ⟨_, rfl⟩
        rw [← hbx]
        have HBX := Lib.hid (at_new wr 108 (mc x) bx hbx)
        replace HM := Lib.hid (HM.out.alloc (.cells (mc x) 108))
        replace HB := Lib.hid (HB.out.alloc HB.out.size (.cells (mc x) 108))
        clear hst ha hao hbl hbx
        generalize wr.alloc (.cells (mc x) 108) = W2 at *
        have r1 := HBX.out.row
        have o1 := HBX.out.open
        have l1 := HBX.out.lt
        go_wp2_with fail
        refine (valid_any x.d.a _).mono ?_
        rintro e W3 ⟨rfl, hw3⟩
        replace HBX := Lib.hid (show At W3 bx 108 (mc x) by rw [hw3]; exact HBX.out.alloc _)
        replace HM := Lib.hid (show Mk Try.prog 88 W3 m (metV (L.take j)) by rw [hw3]; exact HM.out.alloc _)
        replace HB := Lib.hid (show Below w.heap.size w W3 by rw [hw3]; exact HB.out.alloc HB.out.size _)
        clear hw3 r1 o1 l1
        cases hv : vld x.d.a
        · have hk := Lib.hid (mChk_no (L := L) (by rw [HK2.out]; unfold mStep; rw [hv]; rfl))
          go_wp2_with fail
          go_ret
          exact ⟨by rw [hk.out]; rfl, HB.out⟩
        · have hag := HBX.out.agg 0 18 (by rw [mc_size]; omega)
          rw [show 0 + 18 = 18 from rfl, mc_dip] at hag
          obtain ⟨ha, hao⟩ := hag
          have c18 := HBX.out.cell 18
          rw [mc_18?] at c18
          have l1 := HBX.out.lt
          by_cases hin : x.d ∈ (L.take j).map (·.d)
          · have hk := Lib.hid (mChk_no (L := L) (by rw [HK2.out]; unfold mStep; rw [decide_eq_true hin]; simp))
            have hlk := HM.out.lookup_yes (P := Try.prog) metT dipKeyed (key_dip x.d) (v := .bool true) (by
              obtain ⟨y, hy, he⟩ := List.mem_map.1 hin
              exact List.mem_map.2 ⟨y, hy, by rw [he]⟩) false
            simp only [Bool.false_eq_true, if_false] at hlk
            clear hin
            go_wp2_with fail
            go_ret
            exact ⟨by rw [hk.out]; rfl, HB.out⟩
          · have hno : ∀ y ∈ metV (L.take j), y.1 ≠ .agg (dc x.d) := by
              intro y hy he
              obtain ⟨z, hz, rfl⟩ := List.mem_map.1 hy
              simp only [Value.agg.injEq] at he
              exact hin (List.mem_map.2 ⟨z, hz, Dp.inj he⟩)
            have hlk := HM.out.lookup_no (P := Try.prog) metT (zeroBl W3) dipKeyed (key_dip x.d) hno false
            simp only [Bool.false_eq_true, if_false] at hlk
            by_cases hw1 : x.w < 1
            · have hk := Lib.hid (mChk_no (L := L) (by rw [HK2.out]; unfold mStep; rw [decide_eq_false (show ¬ 1 ≤ x.w by omega)]; simp))
              clear hin hno
              go_wp2_with fail
              go_ret
              exact ⟨by rw [hk.out]; rfl, HB.out⟩
            · have hw1z : decide (x.w < 1) = false := by simpa using hw1
              by_cases hw2 : 16 < x.w
              · have hk := Lib.hid (mChk_no (L := L) (by rw [HK2.out]; unfold mStep; rw [decide_eq_false (show ¬ x.w ≤ 16 by omega)]; simp))
                clear hin hno hw1
                go_wp2_with fail
                go_ret
                exact ⟨by rw [hk.out]; rfl, HB.out⟩
              · have hw2z : decide (16 < x.w) = false := by simpa using hw2
                have HK3 := Lib.hid (show mOk L = mGo ((L.take (j + 1)).map (·.d)) (L.drop (j + 1)) by
                  rw [HK2.out]; unfold mStep
                  rw [hv, decide_eq_false hin, decide_eq_true (show 1 ≤ x.w by omega), decide_eq_true (show x.w ≤ 16 by omega)]; simp)
                obtain ⟨W6, hput, hm6, hmd, hsz⟩ := HM.out.put_new (P := Try.prog) metT dipKeyed (key_dip x.d) (v := .bool true) hno
                have HM6 := Lib.hid (show Mk Try.prog 88 W6 m (metV (L.take (j + 1))) by
                  rw [HTK.out]; unfold metV; rw [List.map_append]; exact hm6)
                have HB6 := Lib.hid (HB.out.trans (mod_below hmd HB.out.size (fun i hi => by rw [hi]; exact HMB.out)))
                clear hin hno hw1 hw2 hm6 hmd hsz
                go_wp2_with fail
                go_roundw
                case rel => exact ⟨j + 1, by simp, by omega, HM6.out, HB6.out, HK3.out⟩
                case measure => simp [intOf] <;> omega
      · have hltz : ¬ (j : Int) < (n : Int) := by omega
        have hjn : j = n := by omega
        have hk := Lib.hid (mChk_yes (L := L) (by rw [HK.out, List.drop_of_length_le (by have := HL.out; omega)]; rfl))
        go_wp2_with fail
        go_ret
        exact ⟨by rw [hk.out]; rfl, HB.out⟩
end Go.Proofs.Ytgjecemmejaieaa

/-
  slices.Max and slices.Index of integers.
-/
namespace Go.Proofs.Ytgjecemmejaieaa
open Go.RowKit
/-- The greatest of some numbers. -/
def maxL : List Int → Int
  | [] => 0
  | x :: r => r.foldl max x
theorem foldl_max_mem : ∀ (r : List Int) (x : Int), r.foldl max x ∈ x :: r
  | [], x => by simp
  | y :: r, x => by
    rw [List.foldl_cons]
    have h := foldl_max_mem r (max x y)
    rcases List.mem_cons.1 h with h | h
    · rw [h]
      rcases Int.le_total x y with h1 | h1
      · rw [Int.max_eq_right h1]; simp
      · rw [Int.max_eq_left h1]; simp
    · simp [h]
theorem maxL_mem {l : List Int} (h : 0 < l.length) : maxL l ∈ l := by
  cases l with
  | nil => simp at h
  | cons x r => exact foldl_max_mem r x
set_option maxHeartbeats 1000000 in
theorem max_any (a : Option Addr) (n c : Nat) (l : List Int) (w : World) (h : Ints w a n l) (hn : 0 < n) (hb : n ≤ 1000000) :
    Calls Try.prog 66 #[.slice a n c] w fun e w' => e = .returned (.int .i64 (maxL l)) ∧ w' = w := by
  obtain ⟨hl, hc⟩ := h
  obtain ⟨b, o, rfl, hlt, hc⟩ := hc hn
  have c0 := hc 0 hn
  have HC := Lib.hid hc
  have HL := Lib.hid hl
  have hn1 : ¬ (n : Int) < 1 := by omega
  obtain ⟨x0, hx0⟩ : ∃ x, x = l.getD 0 0 := ⟨_, rfl⟩
  rw [← hx0, Nat.add_zero] at c0
  have HX := Lib.hid (show (l.take 1).foldl max x0 = x0 by
    rw [hx0]; cases l with
    | nil => rfl
    | cons x r => simp)
  have HX0 := Lib.hid hx0
  clear hc hl hx0
  have hnz : decide ((n : Int) < 1) = false := by simpa using hn1
  go_enter Try.func66, Try.ntmps66
  go_wp2_with fail
  go_loopw [3, 4] (fun s3 s4 wr => ∃ j : Nat, s4 = .int .i64 (j : Nat) ∧ 1 ≤ j ∧ j ≤ n ∧ s3 = .int .i64 ((l.take j).foldl max x0) ∧ wr = w) (fun _ s4 _ => n - (intOf s4).toNat)
  case atStart => exact ⟨1, rfl, Nat.le_refl _, hn, by rw [HX.out], rfl⟩
  case round =>
    obtain ⟨j, rfl, hj1, hj, rfl, rfl⟩ := hrel
    by_cases hlt2 : j < n
    · have hltz : (j : Int) < (n : Int) := by omega
      have cj := HC.out j hlt2
      obtain ⟨y, hy⟩ : ∃ y, y = l.getD j 0 := ⟨_, rfl⟩
      rw [← hy] at cj
      have HY := Lib.hid (show (l.take (j + 1)).foldl max x0 = max ((l.take j).foldl max x0) y by
        rw [List.take_add_one, List.getElem?_eq_getElem (by have := HL.out; omega), List.foldl_append, hy, List.getD_eq_getElem?_getD, List.getElem?_eq_getElem (by have := HL.out; omega)]
        rfl)
      clear hy
      generalize (l.take j).foldl max x0 = z at *
      go_wp2_with fail
      go_roundw
      case rel => exact ⟨j + 1, by simp, by omega, by omega, by rw [HY.out]; congr 1; split <;> omega, trivial⟩
      case measure => simp [intOf] <;> omega
    · have hltz : ¬ (j : Int) < (n : Int) := by omega
      have hjn : j = n := by omega
      have HM := Lib.hid (show (l.take j).foldl max x0 = maxL l by
        have := HL.out
        rw [List.take_of_length_le (by omega), HX0.out]
        cases l with
        | nil => simp at this; omega
        | cons x r => simp [maxL])
      rw [HM.out]
      go_wp2_with fail
      go_ret
      exact ⟨rfl, rfl⟩
theorem idx_get : ∀ (l : List Int) (x : Int), x ∈ l → l[l.idxOf x]? = some x
  | [], x, h => by simp at h
  | a :: r, x, h => by
    rw [List.idxOf_cons]
    cases hax : (a == x)
    · rw [cond_false, List.getElem?_cons_succ]
      refine idx_get r x ?_
      rcases List.mem_cons.1 h with h | h
      · rw [h] at hax; simp at hax
      · exact h
    · have : a = x := by simpa using hax
      rw [cond_true, this]; rfl
theorem idx_min : ∀ (l : List Int) (x : Int) (j : Nat), l[j]? = some x → l.idxOf x ≤ j
  | [], x, j, h => by simp at h
  | a :: r, x, j, h => by
    rw [List.idxOf_cons]
    cases hax : (a == x)
    · cases j with
      | zero => simp only [List.getElem?_cons_zero, Option.some.injEq] at h; rw [h] at hax; simp at hax
      | succ j =>
        rw [List.getElem?_cons_succ] at h
        have := idx_min r x j h
        rw [cond_false]; omega
    · rw [cond_true]; omega
set_option maxHeartbeats 1000000 in
theorem index_any (a : Option Addr) (n c : Nat) (l : List Int) (x : Int) (w : World) (h : Ints w a n l) (hx : x ∈ l) (hb : n ≤ 1000000) :
    Calls Try.prog 65 #[.slice a n c, .int .i64 x] w fun e w' => e = .returned (.int .i64 ((l.idxOf x : Nat) : Int)) ∧ w' = w := by
  obtain ⟨hl, hc⟩ := h
  have HL := Lib.hid hl
  have HX := Lib.hid hx
  have hpos : 0 < n := by rw [← hl]; exact List.length_pos_of_mem hx
  obtain ⟨b, o, rfl, hlt, hc⟩ := hc hpos
  have HC := Lib.hid hc
  clear hc hl hx
  go_enter Try.func65, Try.ntmps65
  go_wp2_with fail
  go_loopw [5, 8] (fun _ s8 wr => ∃ j : Nat, s8 = .int .i64 (j : Nat) ∧ j ≤ l.idxOf x ∧ wr = w) (fun _ s8 _ => n - (intOf s8).toNat)
  case atStart => exact ⟨0, rfl, Nat.zero_le _, rfl⟩
  case round =>
    obtain ⟨j, rfl, hj, rfl⟩ := hrel
    have hidx : l.idxOf x < n := by have := List.idxOf_lt_length_of_mem HX.out; have := HL.out; omega
    have hlt2 : j < n := by omega
    have hltz : (j : Int) < (n : Int) := by omega
    have cj := HC.out j hlt2
    obtain ⟨y, hy⟩ : ∃ y, y = l.getD j 0 := ⟨_, rfl⟩
    rw [← hy] at cj
    have hyj : l[j]? = some y := by rw [hy, List.getD_eq_getElem?_getD, List.getElem?_eq_getElem (by have := HL.out; omega)]; rfl
    by_cases hxy : x = y
    · have he : l.idxOf x = j := by
        have := idx_min l x j (by rw [hxy]; exact hyj)
        omega
      have HE := Lib.hid he
      have hq : (x == y) = true := by rw [hxy]; exact beq_self_eq_true _
      clear hy hyj he hxy
      go_wp2_with fail
      go_ret
      exact ⟨by rw [HE.out]; rfl, rfl⟩
    · have hj2 : j + 1 ≤ l.idxOf x := by
        rcases Nat.lt_or_ge j (l.idxOf x) with h1 | h1
        · exact h1
        · exfalso
          have he : l.idxOf x = j := by omega
          have h3 := idx_get l x HX.out
          rw [he, hyj] at h3
          exact hxy (Option.some.inj h3).symm
      have HJ := Lib.hid hj2
      have hq : (x == y) = false := by simpa using hxy
      clear hy hyj hxy hj2
      go_wp2_with fail
      go_roundw
      case rel => exact ⟨j + 1, by simp, HJ.out, trivial⟩
      case measure => simp [intOf] <;> omega
end Go.Proofs.Ytgjecemmejaieaa

/-
  slots.Shares.
-/
namespace Go.Proofs.Ytgjecemmejaieaa
open Go.RowKit
abbrev ei (x : Int) : List Value := [.int .i64 x]
theorem ei_len (x : Int) : (ei x).length = 1 := rfl
theorem ei_one (x : Int) : ∀ u ∈ ei x, u.oneCell' = true := by
  intro u hu
  simp only [ei, List.mem_singleton] at hu
  subst hu; rfl
theorem ints_rd {w : World} {a : Option Addr} {n : Nat} {L : List Int} (h : Rd 1 ei w a n L) : Ints w a n L := by
  refine ⟨h.1, fun hn => ?_⟩
  obtain ⟨b, o, rfl, hlt, hc⟩ := h.2 hn
  refine ⟨b, o, rfl, hlt, fun i hi => ?_⟩
  have hx : L[i]? = some (L.getD i 0) := by rw [List.getD_eq_getElem?_getD, List.getElem?_eq_getElem (by rw [h.1]; exact hi)]; rfl
  have := hc i _ hx 0 (by omega)
  rw [Nat.mul_one, Nat.add_zero] at this
  exact this
def sumW (L : List Mb) : Int := (L.map (·.w)).sum
def floW (L : List Mb) (n W : Int) : List Int := L.map fun x => n * x.w / W
def remW (L : List Mb) (n W : Int) : List Int := L.map fun x => n * x.w % W
/-- One more for whom the most is lacking. -/
def shStep (p : List Int × List Int) : List Int × List Int := (p.1.set (p.2.idxOf (maxL p.2)) (p.1.getD (p.2.idxOf (maxL p.2)) 0 + 1), p.2.set (p.2.idxOf (maxL p.2)) (-1))
def shGo : Nat → List Int × List Int → List Int × List Int
  | 0, p => p
  | k + 1, p => shGo k (shStep p)
def sharesOf (L : List Mb) (n : Nat) : List Int := (shGo (n - (floW L n (sumW L)).sum.toNat) (floW L n (sumW L), remW L n (sumW L))).1
theorem shStep_len (p : List Int × List Int) : (shStep p).1.length = p.1.length ∧ (shStep p).2.length = p.2.length := by simp [shStep]
theorem shGo_len : ∀ (k : Nat) (p : List Int × List Int), (shGo k p).1.length = p.1.length
  | 0, _ => rfl
  | k + 1, p => by rw [shGo, shGo_len k, (shStep_len p).1]
theorem sum_set : ∀ (l : List Int) (i : Nat) (x : Int), i < l.length → (l.set i x).sum = l.sum - l.getD i 0 + x
  | [], i, x, h => by simp at h
  | a :: r, 0, x, _ => by simp; omega
  | a :: r, i + 1, x, h => by
    have := sum_set r i x (by simpa using h)
    simp only [List.set_cons_succ, List.sum_cons, this]
    simp; omega
theorem shStep_sum (p : List Int × List Int) (h : p.1.length = p.2.length) (h0 : 0 < p.2.length) : (shStep p).1.sum = p.1.sum + 1 := by
  unfold shStep
  have hi : p.2.idxOf (maxL p.2) < p.1.length := by rw [h]; exact List.idxOf_lt_length_of_mem (maxL_mem h0)
  rw [sum_set _ _ _ hi]; omega
theorem shGo_sum : ∀ (k : Nat) (p : List Int × List Int), p.1.length = p.2.length → 0 < p.2.length → (shGo k p).1.sum = p.1.sum + k
  | 0, p, _, _ => by simp [shGo]
  | k + 1, p, h, h0 => by
    have := shStep_len p
    rw [shGo, shGo_sum k _ (by omega) (by omega), shStep_sum p h h0]
    push_cast
    omega
theorem shStep_pos (p : List Int × List Int) (h : ∀ x ∈ p.1, 0 ≤ x) : ∀ x ∈ (shStep p).1, 0 ≤ x := by
  intro x hx
  unfold shStep at hx
  rcases List.mem_or_eq_of_mem_set hx with hx | hx
  · exact h x hx
  · rw [hx, List.getD_eq_getElem?_getD]
    cases hq : p.1[p.2.idxOf (maxL p.2)]? with
    | none => simp
    | some y => have := h y (List.mem_of_getElem? hq); simp; omega
theorem shGo_pos : ∀ (k : Nat) (p : List Int × List Int), (∀ x ∈ p.1, 0 ≤ x) → ∀ x ∈ (shGo k p).1, 0 ≤ x
  | 0, _, h => h
  | k + 1, p, h => shGo_pos k _ (shStep_pos p h)
theorem floW_le (n W : Int) (hW : 0 < W) (hn : 0 ≤ n) : ∀ L : List Mb, (floW L n W).sum * W ≤ n * sumW L
  | [] => by simp [floW, sumW]
  | x :: r => by
    have ih := floW_le n W hW hn r
    have e1 : (floW (x :: r) n W).sum = n * x.w / W + (floW r n W).sum := by simp [floW]
    have e2 : sumW (x :: r) = x.w + sumW r := by simp [sumW]
    have h1 := Int.ediv_mul_le (n * x.w) (show W ≠ 0 by omega)
    rw [e1, e2, Int.add_mul, Int.mul_add]
    omega
theorem floW_sum (L : List Mb) (n : Int) (hn : 0 ≤ n) (hW : 0 < sumW L) : (floW L n (sumW L)).sum ≤ n := by
  have h := floW_le n (sumW L) hW hn L
  exact Int.le_of_mul_le_mul_right h hW
/-- The members' weights. -/
theorem mGo_w : ∀ (met : List Dp) (L : List Mb), mGo met L = true → ∀ x ∈ L, 1 ≤ x.w ∧ x.w ≤ 16
  | _, [], _ => by simp
  | met, y :: r, h => by
    simp only [mGo, mStep, Bool.and_eq_true, decide_eq_true_eq] at h
    intro x hx
    rcases List.mem_cons.1 hx with rfl | hx
    · exact ⟨h.1.1.2, h.1.2⟩
    · exact mGo_w _ r h.2 x hx
theorem mOk_w {L : List Mb} (h : mOk L = true) : L.length ≤ 32 ∧ ∀ x ∈ L, 1 ≤ x.w ∧ x.w ≤ 16 := by
  simp only [mOk, Bool.and_eq_true, decide_eq_true_eq] at h
  exact ⟨h.1, mGo_w [] L h.2⟩
theorem sumW_bounds : ∀ (L : List Mb), (∀ x ∈ L, 1 ≤ x.w ∧ x.w ≤ 16) → (L.length : Int) ≤ sumW L ∧ sumW L ≤ 16 * L.length
  | [], _ => by simp [sumW]
  | x :: r, h => by
    have ih := sumW_bounds r fun y hy => h y (by simp [hy])
    have hx := h x (by simp)
    have e : sumW (x :: r) = x.w + sumW r := by simp [sumW]
    rw [e, List.length_cons]
    push_cast
    omega
theorem sum_nonneg' : ∀ (l : List Int), (∀ x ∈ l, 0 ≤ x) → 0 ≤ l.sum
  | [], _ => by simp
  | a :: r, h => by
    have := sum_nonneg' r fun x hx => h x (by simp [hx])
    have := h a (by simp)
    rw [List.sum_cons]; omega
theorem sharesOf_facts {L : List Mb} {n : Nat} (h : mOk L = true) (h0 : 0 < L.length) : (sharesOf L n).length = L.length ∧ (sharesOf L n).sum = n ∧ ∀ x ∈ sharesOf L n, 0 ≤ x := by
  obtain ⟨hl, hw⟩ := mOk_w h
  have hb := sumW_bounds L hw
  have hW : 0 < sumW L := by omega
  have hs := floW_sum L n (Int.natCast_nonneg n) hW
  have hp : ∀ x ∈ floW L n (sumW L), 0 ≤ x := by
    intro x hx
    obtain ⟨y, hy, rfl⟩ := List.mem_map.1 hx
    exact Int.ediv_nonneg (Int.mul_nonneg (Int.natCast_nonneg n) (by have := hw y hy; omega)) (by omega)
  have hs0 : 0 ≤ (floW L n (sumW L)).sum := sum_nonneg' _ hp
  refine ⟨by unfold sharesOf; rw [shGo_len]; simp [floW], ?_, shGo_pos _ _ hp⟩
  unfold sharesOf
  rw [shGo_sum _ _ (by simp [floW, remW]) (by simpa [remW] using h0)]
  show (floW L n (sumW L)).sum + _ = _
  omega
end Go.Proofs.Ytgjecemmejaieaa
