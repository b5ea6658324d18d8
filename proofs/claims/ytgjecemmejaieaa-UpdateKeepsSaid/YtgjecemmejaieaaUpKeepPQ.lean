/-
  UpdateKeeps: what holds between acts, in plain words.
-/
import Derived.Test.YtgjecemmejaieaaBav
import Derived.Test.YtgjecemmejaieaaUpHasQ
namespace Go.Proofs.Ytgjecemmejaieaa
open Go.RowKit Go.Shelf
/-- The flow of a number, where it falls. -/
def PX (c : Cf) (N x : Nat) : List Nat := pN c (akey (x : Int) false false) N
theorem hasB_mono {ws L P : List Nat} (hb : ∀ q ∈ L, q / 64 < ws.length) (h : hasB ws P = true) : hasB (insAll ws L) P = true := by
  unfold hasB at *
  simp only [Bool.and_eq_true, List.all_eq_true] at *
  refine ⟨fun p hp => ?_, h.2⟩
  rw [bt_insAll L ws p hb, h.1 p hp]
  simp
theorem hasB_ins {ws L : List Nat} (hb : ∀ q ∈ L, q / 64 < ws.length) (hne : L ≠ []) : hasB (insAll ws L) L = true := by
  unfold hasB
  simp only [Bool.and_eq_true, List.all_eq_true]
  refine ⟨fun p hp => ?_, by cases L with | nil => exact absurd rfl hne | cons a l => rfl⟩
  rw [bt_insAll L ws p hb, decide_eq_true hp]
  rfl
/-- The pool's side. -/
structure Kq (n nv : Nat) (s : Us) : Prop where
  len : s.d.vs.length = nv
  st : s.st ≤ 2
  now : ∃ x, s.d.vs[s.d.now]? = some x ∧ x.res = false
  ver : ∀ v x, s.d.vs[v]? = some x → x.S.length ≤ 64 ∧ x.refs = if s.st = 2 ∧ v = s.old then 1 else 0
  qn : ((if s.st = 1 then [s.work] else []) ++ s.l).Nodup
  qv : ∀ v ∈ (if s.st = 1 then [s.work] else []) ++ s.l, ∃ x, s.d.vs[v]? = some x ∧ x.res = true
  old : s.st = 2 → s.old ≠ s.d.now ∧ ∃ x, s.d.vs[s.old]? = some x ∧ x.res = false
  S : s.d.S.length = 0 ∨ s.d.S.length = n
section
variable {n nv : Nat} {s : Us}
theorem Kq.liveNow (h : Kq n nv s) : liveB s.d.vs s.d.now s.d.now = true := by
  obtain ⟨x, hx, _⟩ := h.now
  rw [live_some hx]; simp
theorem Kq.liveOld (h : Kq n nv s) (h2 : s.st = 2) : liveB s.d.vs s.d.now s.old = true := by
  obtain ⟨_, x, hx, _⟩ := h.old h2
  have := (h.ver _ x hx).2
  rw [if_pos ⟨h2, rfl⟩] at this
  rw [live_some hx, this]; simp
theorem Kq.ask (h : Kq n nv s) {v : Nat} (hv : v < s.d.vs.length) (hl : liveB s.d.vs s.d.now v = false) (plv psv lv : Value) (M : List Mb) (hM : mOk M = true) (hn : n ≤ 64) : Kq n nv { s with d := s.d.asked v plv psv M n, lv := lv, l := s.l ++ [v] } := by
  obtain ⟨x, hx⟩ : ∃ x, s.d.vs[v]? = some x := ⟨_, List.getElem?_eq_getElem hv⟩
  rw [live_some hx] at hl
  simp only [Bool.or_eq_false_iff, decide_eq_false_iff_not] at hl
  have hvn : v ≠ s.d.now := hl.1.1
  have hres : x.res = false := hl.2
  have hvo : ¬ (s.st = 2 ∧ v = s.old) := fun e => by
    have := (h.ver v x hx).2
    rw [if_pos e] at this
    omega
  have hnq : v ∉ (if s.st = 1 then [s.work] else []) ++ s.l := fun e => by
    obtain ⟨y, hy, hr⟩ := h.qv v e
    rw [hx] at hy
    cases hy
    rw [hres] at hr
    cases hr
  have hne : ∀ u, u ≠ v → (s.d.vs.set v ⟨psv, fillR s.d.S M n, 0, true⟩)[u]? = s.d.vs[u]? := fun u hu => List.getElem?_set_ne (fun e => hu e.symm)
  refine ⟨by simp [Pd.asked, h.len], h.st, ?_, fun u y hy => ?_, ?_, fun u hu => ?_, fun h2 => ?_, fillR_len _ _ _ hM⟩
  · obtain ⟨y, hy, hr⟩ := h.now
    exact ⟨y, by simp only [Pd.asked]; rw [hne _ (fun e => hvn e.symm)]; exact hy, hr⟩
  · simp only [Pd.asked] at hy
    by_cases hu : u = v
    · subst hu
      rw [List.getElem?_set_self hv] at hy
      cases hy
      exact ⟨fillR_le _ _ _ hM hn, by simp only; rw [if_neg hvo]⟩
    · rw [hne u hu] at hy
      exact h.ver u y hy
  · simp only
    rw [← List.append_assoc]
    exact List.nodup_append.2 ⟨h.qn, by simp, fun a ha b hb e => by
      simp only [List.mem_singleton] at hb
      subst hb
      exact hnq (e ▸ ha)⟩
  · simp only at hu
    rw [← List.append_assoc, List.mem_append] at hu
    rcases hu with hu | hu
    · obtain ⟨y, hy, hr⟩ := h.qv u hu
      exact ⟨y, by simp only [Pd.asked]; rw [hne u (fun e => hnq (e ▸ hu))]; exact hy, hr⟩
    · simp only [List.mem_singleton] at hu
      subst hu
      exact ⟨_, by simp only [Pd.asked]; rw [List.getElem?_set_self hv], rfl⟩
  · obtain ⟨h3, y, hy, hr⟩ := h.old h2
    exact ⟨h3, y, by simp only [Pd.asked]; rw [hne _ (fun e => hvo ⟨h2, e.symm⟩)]; exact hy, hr⟩
theorem Kq.go0 (h : Kq n nv s) (h0 : s.st = 0) {v : Nat} {r : List Nat} (hl : s.l = v :: r) (lv : Value) (m : Int) : Kq n nv { s with st := 1, lv := lv, l := r, work := v, mark := m } := by
  have hq := h.qn
  have hqv := h.qv
  rw [if_neg (by omega), List.nil_append, hl] at hq hqv
  refine ⟨h.len, by simp, h.now, fun u x hx => ?_, by simpa using hq, by simpa using hqv, fun h => absurd h (by simp), h.S⟩
  have := h.ver u x hx
  rw [if_neg (by omega)] at this
  exact ⟨this.1, by rw [this.2, if_neg (by simp)]⟩
theorem Kq.go1 (h : Kq n nv s) (h1 : s.st = 1) {x y : V} (hx : s.d.vs[s.d.now]? = some x) (hy : s.d.vs[s.work]? = some y) (hne : s.work ≠ s.d.now) (m : Int) : Kq n nv { s with d := s.d.served s.work x y, st := 2, old := s.d.now, mark := m } := by
  have hq := h.qn
  have hqv := h.qv
  rw [if_pos h1] at hq hqv
  have hnw : s.work ∉ s.l := (List.nodup_cons.1 hq).1
  have hrx : x.res = false := by
    obtain ⟨x', hx', hr⟩ := h.now
    rw [hx] at hx'; cases hx'; exact hr
  have hlw : s.work < s.d.vs.length := (List.getElem?_eq_some_iff.1 hy).1
  have hln : s.d.now < s.d.vs.length := (List.getElem?_eq_some_iff.1 hx).1
  have hxr := h.ver _ x hx
  have hyr := h.ver _ y hy
  rw [if_neg (by omega)] at hxr hyr
  have gw : (s.d.served s.work x y).vs[s.work]? = some { y with res := false } := by
    simp only [Pd.served]
    rw [List.getElem?_set_self (by simpa using hlw)]
  have gn : (s.d.served s.work x y).vs[s.d.now]? = some { x with refs := x.refs + 1 } := by
    simp only [Pd.served]
    rw [List.getElem?_set_ne hne, List.getElem?_set_self hln]
  have go : ∀ u, u ≠ s.work → u ≠ s.d.now → (s.d.served s.work x y).vs[u]? = s.d.vs[u]? := fun u h1 h2 => by
    simp only [Pd.served]
    rw [List.getElem?_set_ne (fun e => h1 e.symm), List.getElem?_set_ne (fun e => h2 e.symm)]
  refine ⟨by simp [Pd.served, h.len], by simp, ⟨_, gw, rfl⟩, fun u z hz => ?_, ?_, fun u hu => ?_, fun _ => ⟨fun e => hne e.symm, _, gn, hrx⟩, h.S⟩
  · by_cases e1 : u = s.work
    · subst e1
      rw [gw] at hz
      cases hz
      exact ⟨hyr.1, by simp only; rw [if_neg (by omega)]; exact hyr.2⟩
    · by_cases e2 : u = s.d.now
      · subst e2
        rw [gn] at hz
        cases hz
        exact ⟨hxr.1, by simp [hxr.2]⟩
      · rw [go u e1 e2] at hz
        have := h.ver u z hz
        rw [if_neg (by omega)] at this
        exact ⟨this.1, by simp only; rw [if_neg (by omega)]; exact this.2⟩
  · simp only
    exact (List.nodup_cons.1 hq).2
  · have hu' : u ∈ s.l := by simpa using hu
    obtain ⟨z, hz, hr⟩ := hqv u (by simp [hu'])
    have e1 : u ≠ s.work := fun e => hnw (e ▸ hu')
    have e2 : u ≠ s.d.now := fun e => by
      subst e
      rw [hx] at hz
      cases hz
      rw [hrx] at hr
      cases hr
    exact ⟨z, by rw [go u e1 e2]; exact hz, hr⟩
theorem Kq.go2 (h : Kq n nv s) (h2 : s.st = 2) {x : V} (hx : s.d.vs[s.old]? = some x) (ws : List Nat) (m : Int) : Kq n nv { s with ws := ws, d := s.d.freed s.old x, st := 0, mark := m } := by
  have hq := h.qn
  have hqv := h.qv
  rw [if_neg (by omega)] at hq hqv
  obtain ⟨hon, x', hx', hrx⟩ := h.old h2
  rw [hx] at hx'
  cases hx'
  have hlo : s.old < s.d.vs.length := (List.getElem?_eq_some_iff.1 hx).1
  have hxr := h.ver _ x hx
  rw [if_pos ⟨h2, rfl⟩] at hxr
  have g0 : (s.d.freed s.old x).vs[s.old]? = some { x with refs := x.refs - 1 } := by
    simp only [Pd.freed]
    rw [List.getElem?_set_self hlo]
  have go : ∀ u, u ≠ s.old → (s.d.freed s.old x).vs[u]? = s.d.vs[u]? := fun u h1 => by
    simp only [Pd.freed]
    rw [List.getElem?_set_ne (fun e => h1 e.symm)]
  refine ⟨by simp [Pd.freed, h.len], by simp, ?_, fun u z hz => ?_, by simpa using hq, fun u hu => ?_, fun h => absurd h (by simp), h.S⟩
  · obtain ⟨y, hy, hr⟩ := h.now
    exact ⟨y, by rw [show (s.d.freed s.old x).now = s.d.now from rfl, go _ (fun e => hon e.symm)]; exact hy, hr⟩
  · by_cases e1 : u = s.old
    · subst e1
      rw [g0] at hz
      cases hz
      exact ⟨hxr.1, by simp [hxr.2]⟩
    · rw [go u e1] at hz
      have := h.ver u z hz
      rw [if_neg (by omega)] at this
      exact ⟨this.1, by simp only; rw [if_neg (by omega)]; exact this.2⟩
  · have hu' : u ∈ s.l := by simpa using hu
    obtain ⟨z, hz, hr⟩ := hqv u (by simpa using hu')
    exact ⟨z, by rw [go u (fun e => by subst e; rw [hx] at hz; cases hz; rw [hrx] at hr; cases hr)]; exact hz, hr⟩
end
/-- Who waits: what each was given. -/
structure Kw (c : Cf) (N : Nat) (s : Us) (f : Nat) (ns : List Nat) (gv : Nat → Nat) (nm : Nat → Bool) : Prop where
  mrk : s.mark ≤ ((f + ns.length : Nat) : Int)
  ob : ∀ i x, ns[i]? = some x → nm x = false → (s.st = 0 → gv x = s.d.now) ∧ (s.st = 1 → gv x = s.d.now ∧ (s.mark ≤ ((f + i : Nat) : Int) → hasB s.ws (PX c N x) = true)) ∧
    (s.st = 2 → (((f + i : Nat) : Int) < s.mark → hasB s.ws (PX c N x) = true ∧ gv x = s.old) ∧ (s.mark ≤ ((f + i : Nat) : Int) → hasB s.ws (PX c N x) = false ∧ gv x = s.d.now))
section
variable {c : Cf} {N : Nat} {s s' : Us} {f : Nat} {ns : List Nat} {gv : Nat → Nat} {nm : Nat → Bool}
theorem Kw.same (h : Kw c N s f ns gv nm) (h1 : s'.st = s.st) (h2 : s'.d.now = s.d.now) (h3 : s'.mark = s.mark) (h4 : s'.ws = s.ws) (h5 : s'.old = s.old) : Kw c N s' f ns gv nm :=
  ⟨by rw [h3]; exact h.mrk, fun i x hx hn => by rw [h1, h2, h3, h4, h5]; exact h.ob i x hx hn⟩
theorem Kw.go0 (h : Kw c N s f ns gv nm) (h0 : s.st = 0) (h1 : s'.st = 1) (h2 : s'.d.now = s.d.now) (h3 : s'.mark = ((f + ns.length : Nat) : Int)) : Kw c N s' f ns gv nm :=
  ⟨by rw [h3]; exact Int.le_refl _, fun i x hx hn => by
    have hi := (List.getElem?_eq_some_iff.1 hx).1
    rw [h1, h2, h3]
    exact ⟨fun h => absurd h (by decide), fun _ => ⟨(h.ob i x hx hn).1 h0, fun hle => absurd hle (by omega)⟩, fun h => absurd h (by decide)⟩⟩
theorem Kw.go1 (h : Kw c N s f ns gv nm) (h0 : s.st = 1) (hm : s.mark ≤ (f : Int)) (h1 : s'.st = 2) (h2 : s'.old = s.d.now) (h3 : s'.mark = ((f + ns.length : Nat) : Int)) (h4 : s'.ws = s.ws) : Kw c N s' f ns gv nm :=
  ⟨by rw [h3]; exact Int.le_refl _, fun i x hx hn => by
    have hi := (List.getElem?_eq_some_iff.1 hx).1
    rw [h1, h2, h3, h4]
    have hh := (h.ob i x hx hn).2.1 h0
    exact ⟨fun h => absurd h (by decide), fun h => absurd h (by decide), fun _ => ⟨fun _ => ⟨hh.2 (by omega), hh.1⟩, fun hle => absurd hle (by omega)⟩⟩⟩
theorem Kw.go2 (h : Kw c N s f ns gv nm) (h0 : s.st = 2) (hm : s.mark ≤ (f : Int)) (h1 : s'.st = 0) (h2 : s'.d.now = s.d.now) (h3 : s'.mark = ((f + ns.length : Nat) : Int)) : Kw c N s' f ns gv nm :=
  ⟨by rw [h3]; exact Int.le_refl _, fun i x hx hn => by
    rw [h1, h2]
    have hh := (h.ob i x hx hn).2.2 h0
    exact ⟨fun _ => (hh.2 (by omega)).2, fun h => absurd h (by decide), fun h => absurd h (by decide)⟩⟩
/-- One was learned. -/
theorem Kw.pop {x : Nat} (h : Kw c N s f (x :: ns) gv nm) : Kw c N s (f + 1) ns gv nm :=
  ⟨by have := h.mrk; simp only [List.length_cons] at this; omega, fun i y hy hn => by
    have := h.ob (i + 1) y (by simpa using hy) hn
    rw [show f + (i + 1) = f + 1 + i by omega] at this
    exact this⟩
/-- The filter grows in the second step. -/
theorem Kw.grow (h : Kw c N s f ns gv nm) (h0 : s.st = 1) {L : List Nat} (hb : ∀ q ∈ L, q / 64 < s.ws.length) : Kw c N { s with ws := insAll s.ws L } f ns gv nm :=
  ⟨h.mrk, fun i x hx hn => by
    have hh := (h.ob i x hx hn).2.1 h0
    exact ⟨fun h => absurd (h0.symm.trans h) (by decide), fun _ => ⟨hh.1, fun hle => hasB_mono hb (hh.2 hle)⟩, fun h => absurd (h0.symm.trans h) (by decide)⟩⟩
/-- One more waits. -/
theorem Kw.push (h : Kw c N s f ns gv nm) {x v : Nat} {p : Bool} (hx : x ∉ ns)
    (hv : p = false → (s.st = 0 → v = s.d.now) ∧ (s.st = 1 → v = s.d.now ∧ hasB s.ws (PX c N x) = true) ∧ (s.st = 2 → hasB s.ws (PX c N x) = false ∧ v = s.d.now)) :
    Kw c N s f (ns ++ [x]) (fun i => if i = x then v else gv i) (fun i => if i = x then p else nm i) := by
  refine ⟨by have := h.mrk; simp only [List.length_append, List.length_singleton]; omega, fun i y hy hn => ?_⟩
  by_cases hi : i < ns.length
  · rw [List.getElem?_append_left hi] at hy
    have hyx : y ≠ x := fun e => hx (e ▸ List.mem_of_getElem? hy)
    simp only [if_neg hyx] at hn ⊢
    exact h.ob i y hy hn
  · have hlen := (List.getElem?_eq_some_iff.1 hy).1
    simp only [List.length_append, List.length_singleton] at hlen
    have hi2 : i = ns.length := by omega
    subst hi2
    rw [List.getElem?_append_right (Nat.le_refl _), Nat.sub_self] at hy
    simp only [List.getElem?_cons_zero, Option.some.injEq] at hy
    subst hy
    simp only [if_true] at hn ⊢
    obtain ⟨a0, a1, a2⟩ := hv hn
    have hmk := h.mrk
    exact ⟨a0, fun e => ⟨(a1 e).1, fun _ => (a1 e).2⟩, fun e => ⟨fun hlt => absurd hlt (by omega), fun _ => a2 e⟩⟩
/-- What one that waits is told. -/
theorem Kw.tell (h : Kw c N s f ns gv nm) (hst : s.st ≤ 2) {i x : Nat} (hx : ns[i]? = some x) (hn : nm x = false) : gv x = if s.st = 2 ∧ hasB s.ws (PX c N x) = true then s.old else s.d.now := by
  have hh := h.ob i x hx hn
  have h3 : s.st = 0 ∨ s.st = 1 ∨ s.st = 2 := by omega
  rcases h3 with h0 | h1 | h2
  · rw [if_neg (by omega)]; exact hh.1 h0
  · rw [if_neg (by omega)]; exact (hh.2.1 h1).1
  · rcases Int.lt_or_le (((f + i : Nat) : Int)) s.mark with hlt | hge
    · obtain ⟨ha, hb⟩ := (hh.2.2 h2).1 hlt
      rw [if_pos ⟨h2, ha⟩]; exact hb
    · obtain ⟨ha, hb⟩ := (hh.2.2 h2).2 hge
      rw [if_neg (by rw [ha]; simp)]; exact hb
end
end Go.Proofs.Ytgjecemmejaieaa
