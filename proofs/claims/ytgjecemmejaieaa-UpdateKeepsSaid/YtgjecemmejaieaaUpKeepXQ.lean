/-
  UpdateKeeps: the heap between acts.
-/
import Derived.Test.YtgjecemmejaieaaUpKeepHQ
namespace Go.Proofs.Ytgjecemmejaieaa
open Go.RowKit Go.Shelf
def gcs (gv : Nat → Nat) : Array Value := ((List.range 300).map fun i => .int .i64 (gv i : Nat)).toArray
def ncs (nm : Nat → Bool) : Array Value := ((List.range 300).map fun i => .bool (nm i)).toArray
@[go_sem] theorem gcs_size (gv : Nat → Nat) : (gcs gv).size = 300 := by simp [gcs]
@[go_sem] theorem ncs_size (nm : Nat → Bool) : (ncs nm).size = 300 := by simp [ncs]
theorem gcs_get (gv : Nat → Nat) (i : Nat) (h : i < 300) : (gcs gv)[i]? = some (.int .i64 (gv i : Nat)) := by
  simp [gcs, List.getElem?_range h]
theorem ncs_get (nm : Nat → Bool) (i : Nat) (h : i < 300) : (ncs nm)[i]? = some (.bool (nm i)) := by
  simp [ncs, List.getElem?_range h]
theorem gcs_set (gv : Nat → Nat) (x v : Nat) : (gcs gv).setIfInBounds x (.int .i64 (v : Nat)) = gcs (fun i => if i = x then v else gv i) := by
  refine Array.ext_getElem? fun j => ?_
  rw [Array.getElem?_setIfInBounds, gcs_size]
  by_cases hj : j < 300
  · by_cases hx : x = j
    · subst hx
      rw [if_pos rfl, if_pos hj, gcs_get _ x hj, if_pos rfl]
    · rw [if_neg hx, gcs_get _ j hj, gcs_get _ j hj, if_neg (fun e => hx e.symm)]
  · rw [Array.getElem?_eq_none (xs := gcs (fun i => if i = x then v else gv i)) (by rw [gcs_size]; omega), Array.getElem?_eq_none (xs := gcs gv) (by rw [gcs_size]; omega)]
    split
    · rw [if_neg (by omega)]
    · rfl
theorem ncs_set (nm : Nat → Bool) (x : Nat) (p : Bool) : (ncs nm).setIfInBounds x (.bool p) = ncs (fun i => if i = x then p else nm i) := by
  refine Array.ext_getElem? fun j => ?_
  rw [Array.getElem?_setIfInBounds, ncs_size]
  by_cases hj : j < 300
  · by_cases hx : x = j
    · subst hx
      rw [if_pos rfl, if_pos hj, ncs_get _ x hj, if_pos rfl]
    · rw [if_neg hx, ncs_get _ j hj, ncs_get _ j hj, if_neg (fun e => hx e.symm)]
  · rw [Array.getElem?_eq_none (xs := ncs (fun i => if i = x then p else nm i)) (by rw [ncs_size]; omega), Array.getElem?_eq_none (xs := ncs nm) (by rw [ncs_size]; omega)]
    split
    · rw [if_neg (by omega)]
    · rfl
theorem zero_g : Try.zeroCells35 = gcs (fun _ => 0) := by kernel_rfl
theorem zero_n : Try.zeroCells36 = ncs (fun _ => false) := by kernel_rfl
abbrev nsI (ns : List Nat) : List Int := ns.map fun v : Nat => (v : Int)
structure Kx (w0 w : World) (c : Cf) (b m : Nat) (k : Uk) (gA gM n nv t : Nat) (s : Us) (f : Nat) (ns : List Nat) (v : Value) (gv : Nat → Nat) (nm : Nat → Bool) : Prop where
  bd : Bd w0 w c b m k s (f : Int) ((f + ns.length : Nat) : Int) v
  q : Kq n nv s
  wt : Kw c k.N s f ns gv nm
  sl : Sl 1 ei 3 w w0.heap.size v (nsI ns)
  ap : ∀ g, v.ownBlock = some g → s.lv.ownBlock ≠ some g
  ga : At w gA 35 (gcs gv)
  gm : At w gM 36 (ncs nm)
  bA : w0.heap.size ≤ gA
  bM : w0.heap.size ≤ gM
  bb : w0.heap.size ≤ b
  lt : ∀ x ∈ ns, x < 300
  ll : s.l.length ≤ t
  nl : f + ns.length ≤ t
section
variable {w0 w w' : World} {c : Cf} {b m : Nat} {k : Uk} {gA gM n nv t : Nat} {s s' : Us} {f : Nat} {ns : List Nat} {v : Value} {gv : Nat → Nat} {nm : Nat → Bool}
theorem Kx.below (h : Kx w0 w c b m k gA gM n nv t s f ns v gv nm) (hb : Below w.heap.size w w') : Kx w0 w' c b m k gA gM n nv t s f ns v gv nm :=
  ⟨h.bd.below hb, h.q, h.wt, h.sl.below hb, h.ap, h.ga.below hb h.ga.lt, h.gm.below hb h.gm.lt, h.bA, h.bM, h.bb, h.lt, h.ll, h.nl⟩
theorem Kx.drew (h : Kx w0 w c b m k gA gM n nv t s f ns v gv nm) : Kx w0 w.drew c b m k gA gM n nv t s f ns v gv nm := h.below (Below.refl _ w).drew
theorem Kx.more (h : Kx w0 w c b m k gA gM n nv t s f ns v gv nm) : Kx w0 w c b m k gA gM n nv (t + 1) s f ns v gv nm := ⟨h.bd, h.q, h.wt, h.sl, h.ap, h.ga, h.gm, h.bA, h.bM, h.bb, h.lt, Nat.le_succ_of_le h.ll, Nat.le_succ_of_le h.nl⟩
theorem Kx.act (h : Kx w0 w c b m k gA gM n nv t s f ns v gv nm) (hm : Mod (UM k s) w w') (hu : Up w' c k s') (hq : Kq n nv s') (hw : Kw c k.N s' f ns gv nm) (hp : s'.d.p = s.d.p) (hl : s'.l.length ≤ t + 1)
    (ho : s'.lv.ownBlock = s.lv.ownBlock ∨ ∃ q, s'.lv.ownBlock = some q ∧ w.heap.size ≤ q) : Kx w0 w' c b m k gA gM n nv (t + 1) s' f ns v gv nm := by
  obtain ⟨cs, hc⟩ := h.bd.up.pool.tAt
  refine ⟨h.bd.act hm hu hp, hq, hw, h.sl.mod hm fun g hg => ?_, fun g hg e => ?_, h.ga.mod hm (h.bd.up.not h.ga (by decide) (by decide) (by decide) (by decide) (by decide)), h.gm.mod hm (h.bd.up.not h.gm (by decide) (by decide) (by decide) (by decide) (by decide)), h.bA, h.bM, h.bb, h.lt, hl, Nat.le_succ_of_le h.nl⟩
  · obtain ⟨cur, hcur⟩ := h.sl.at hg
    rintro (e | e | e | e | e)
    · exact At.ne hcur h.bd.up.obj (by decide) e
    · exact At.ne hcur h.bd.up.pool.obj (by decide) e
    · exact At.ne hcur hc (by decide) e
    · exact At.ne hcur h.bd.up.wds (by decide) e
    · exact h.ap g hg e
  · rcases ho with e2 | ⟨q, e2, hq2⟩
    · exact h.ap g hg (e2 ▸ e)
    · rw [e2] at e
      cases e
      have := (h.sl.ge hg).2
      omega
/-- The same, but for what the acts say. -/
structure Kb (w0 w : World) (c : Cf) (b m : Nat) (k : Uk) (gA gM : Nat) (s : Us) (F G : Int) (L : List Int) (v : Value) (gv : Nat → Nat) (nm : Nat → Bool) : Prop where
  bd : Bd w0 w c b m k s F G v
  sl : Sl 1 ei 3 w w0.heap.size v L
  ap : ∀ g, v.ownBlock = some g → s.lv.ownBlock ≠ some g
  ga : At w gA 35 (gcs gv)
  gm : At w gM 36 (ncs nm)
  bA : w0.heap.size ≤ gA
  bM : w0.heap.size ≤ gM
  bb : w0.heap.size ≤ b
theorem Kx.kb (h : Kx w0 w c b m k gA gM n nv t s f ns v gv nm) : Kb w0 w c b m k gA gM s (f : Int) ((f + ns.length : Nat) : Int) (nsI ns) v gv nm := ⟨h.bd, h.sl, h.ap, h.ga, h.gm, h.bA, h.bM, h.bb⟩
theorem Kb.kx {F G : Int} {L : List Int} (h : Kb w0 w c b m k gA gM s F G L v gv nm) (hF : F = (f : Int)) (hG : G = ((f + ns.length : Nat) : Int)) (hL : L = nsI ns) (hq : Kq n nv s) (hw : Kw c k.N s f ns gv nm) (hlt : ∀ x ∈ ns, x < 300) (hl : s.l.length ≤ t) (hn : f + ns.length ≤ t) : Kx w0 w c b m k gA gM n nv t s f ns v gv nm := by
  subst hF hG hL
  exact ⟨h.bd, hq, hw, h.sl, h.ap, h.ga, h.gm, h.bA, h.bM, h.bb, hlt, hl, hn⟩
variable {F G : Int} {L : List Int}
theorem mod1 (w : World) (g j : Nat) (v : Value) : Mod (fun x => x = g) w (w.setCell ⟨g, j, none⟩ v) := (Mod.refl _ w).setCell ⟨g, j, none⟩ v (fun _ => rfl)
theorem Sl.offI {B g : Nat} {t : TypeId} {cs : Array Value} (h : Sl 1 ei 3 w B v L) (hg : At w g t cs) (hm : Mod (fun x => x = g) w w') (ht : 3 ≠ t) : Sl 1 ei 3 w' B v L := h.mod hm fun g' hg' e => by
  obtain ⟨cur, hc⟩ := h.at hg'
  exact At.ne hc hg ht e
theorem Kb.below (h : Kb w0 w c b m k gA gM s F G L v gv nm) (hb : Below w.heap.size w w') : Kb w0 w' c b m k gA gM s F G L v gv nm :=
  ⟨h.bd.below hb, h.sl.below hb, h.ap, h.ga.below hb h.ga.lt, h.gm.below hb h.gm.lt, h.bA, h.bM, h.bb⟩
/-- One is given. -/
theorem Kb.setA (h : Kb w0 w c b m k gA gM s F G L v gv nm) (x u : Nat) : Kb w0 (w.setCell ⟨gA, x, none⟩ (.int .i64 (u : Nat))) c b m k gA gM s F G L v (fun i => if i = x then u else gv i) nm := by
  have hm := mod1 w gA x (.int .i64 (u : Nat))
  refine ⟨⟨h.bd.bed.mod hm (At.ne h.bd.bed h.ga (by decide)), h.bd.up.off h.ga hm (by decide) (by decide) (by decide) (by decide) (by decide) (by decide) (by decide) (by decide) (by decide), h.bd.bel.trans (mod_below hm h.bd.bel.size (fun g hg => by have := h.bA; omega)), h.bd.kB⟩,
    h.sl.offI h.ga hm (by decide), h.ap, ?_, h.gm.mod hm (At.ne h.gm h.ga (by decide)), h.bA, h.bM, h.bb⟩
  have := h.ga.set x (.int .i64 (u : Nat))
  rwa [gcs_set] at this
theorem Kb.setM (h : Kb w0 w c b m k gA gM s F G L v gv nm) (x : Nat) (p : Bool) : Kb w0 (w.setCell ⟨gM, x, none⟩ (.bool p)) c b m k gA gM s F G L v gv (fun i => if i = x then p else nm i) := by
  have hm := mod1 w gM x (.bool p)
  refine ⟨⟨h.bd.bed.mod hm (At.ne h.bd.bed h.gm (by decide)), h.bd.up.off h.gm hm (by decide) (by decide) (by decide) (by decide) (by decide) (by decide) (by decide) (by decide) (by decide), h.bd.bel.trans (mod_below hm h.bd.bel.size (fun g hg => by have := h.bM; omega)), h.bd.kB⟩,
    h.sl.offI h.gm hm (by decide), h.ap, h.ga.mod hm (At.ne h.ga h.gm (by decide)), ?_, h.bA, h.bM, h.bb⟩
  have := h.gm.set x (.bool p)
  rwa [ncs_set] at this
/-- A cell of the bed. -/
theorem Kb.setB (h : Kb w0 w c b m k gA gM s F G L v gv nm) (j : Nat) (u : Value) {F' G' : Int} {v' : Value} {L' : List Int} (hs : (bedc s.d.p k.u m F G v).setIfInBounds j u = bedc s.d.p k.u m F' G' v') (hsl : Sl 1 ei 3 w w0.heap.size v' L') (hap : ∀ g, v'.ownBlock = some g → s.lv.ownBlock ≠ some g) :
    Kb w0 (w.setCell ⟨b, j, none⟩ u) c b m k gA gM s F' G' L' v' gv nm := by
  have hm := mod1 w b j u
  have hbed := h.bd.bed.set j u
  rw [hs] at hbed
  exact ⟨⟨hbed, h.bd.up.off h.bd.bed hm (by decide) (by decide) (by decide) (by decide) (by decide) (by decide) (by decide) (by decide) (by decide), h.bd.bel.trans (mod_below hm h.bd.bel.size (fun g hg => by have := h.bb; omega)), h.bd.kB⟩,
    hsl.offI h.bd.bed hm (by decide), hap, h.ga.mod hm (At.ne h.ga h.bd.bed (by decide)), h.gm.mod hm (At.ne h.gm h.bd.bed (by decide)), h.bA, h.bM, h.bb⟩
/-- A slice that was made behind all keeps apart. -/
theorem Kb.apart (h : Kb w0 w c b m k gA gM s F G L v gv nm) {B : Nat} {v' : Value} {L' : List Int} (hB : w.heap.size ≤ B) (hs : Sl 1 ei 3 w' B v' L') : ∀ g, v'.ownBlock = some g → s.lv.ownBlock ≠ some g := fun g hg e => by
  have h1 := (hs.ge hg).1
  have h2 := (h.bd.up.um (.inr (.inr (.inr (.inr e))))).2
  omega
end
end Go.Proofs.Ytgjecemmejaieaa
