/-
  UpdateKeeps: the acts, over what holds between them.
-/
import Derived.Test.YtgjecemmejaieaaBav
import Derived.Test.YtgjecemmejaieaaUpKeepPQ
namespace Go.Proofs.Ytgjecemmejaieaa
open Go.RowKit Go.Shelf
theorem cfg_config (l : List Int) : ∃ n nv N, Cfg (config l) n nv N ∧ 1 ≤ (config l).hashes := by
  have b3 := atOf_bounds l 3 6 (by omega)
  have b4 := atOf_bounds l 4 4 (by omega)
  have b5 := atOf_bounds l 5 16 (by omega)
  have b6 := atOf_bounds l 6 5 (by omega)
  have hp : 2 ^ (atOf l 3 6).toNat ≤ 2 ^ 5 := Nat.pow_le_pow_right (by decide) (by omega)
  have hp1 : 1 ≤ 2 ^ (atOf l 3 6).toNat := Nat.one_le_two_pow
  refine ⟨1 + (atOf l 5 16).toNat, 2 + (atOf l 6 5).toNat, 8 * 2 ^ (atOf l 3 6).toNat, ⟨cok_config l, by simp [config, cfgOf], by simp [config, cfgOf], by simp [config, cfgOf], by omega, by omega, by omega, by omega, by omega, by omega, ?_, ?_⟩, ?_⟩ <;> simp only [config, cfgOf] <;> omega
theorem PX_ne {c : Cf} {N x : Nat} (hh : 1 ≤ c.hashes) : PX c N x ≠ [] := by
  have h1 : (PX c N x).length = c.hashes.toNat := by unfold PX pN; rw [List.length_map, bitsOf_length c _ (kvld_akey _ _ _)]
  intro h
  rw [h] at h1
  simp at h1
  omega
section
variable {w w' : World} {c : Cf} {k : Uk} {s : Us} {n nv f : Nat} {ns : List Nat} {gv : Nat → Nat} {nm : Nat → Bool}
/-- Blocks of other types may turn. -/
theorem Up.off (h : Up w c k s) {g : Nat} {t : TypeId} {cs : Array Value} (hg : At w g t cs) (hm : Mod (fun x => x = g) w w') (h1 : 81 ≠ t) (h2 : 93 ≠ t) (h3 : 90 ≠ t) (h4 : 131 ≠ t) (h5 : 3 ≠ t) (h6 : 129 ≠ t) (h7 : 100 ≠ t) (h8 : 88 ≠ t) (h9 : 108 ≠ t) : Up w' c k s := by
  obtain ⟨cs', hc⟩ := h.pool.tAt
  exact ⟨h.obj.mod hm (At.ne h.obj hg h1), h.qu.mod hm fun g' hg' e => h.qu.ne2 hg' hg h5 e,
    h.pool.away hm (At.ne h.pool.obj hg h2) (At.ne hc hg h3) (fun g' cs hg' => At.ne hg' hg h8) (fun g' cs hg' => At.ne hg' hg h9),
    h.flt.mod hm (At.ne h.flt hg h6), h.wds.mod hm (At.ne h.wds hg h4), h.fam.mod hm (At.ne h.fam hg h7), h.bu, h.bd, h.bg, h.hl, h.hx, h.hN, h.hN2, h.h1, h.h2, h.hb1, h.big⟩
def GoK (w : World) (c : Cf) (k : Uk) (s : Us) (n nv f : Nat) (ns : List Nat) (gv : Nat → Nat) (nm : Nat → Bool) (w' : World) : Prop :=
  ∃ s', Up w' c k s' ∧ Kq n nv s' ∧ Kw c k.N s' f ns gv nm ∧ s'.lv.ownBlock = s.lv.ownBlock ∧ s'.l.length ≤ s.l.length ∧ s'.d.p = s.d.p ∧ Mod (UM k s) w w'
theorem kgo_any (h : Up w c k s) (hk : Kq n nv s) (hw : Kw c k.N s f ns gv nm) : Calls Try.prog 12 #[.pointer (some ⟨k.u, 0, none⟩), .int .i64 (f : Nat), .int .i64 ((f + ns.length : Nat) : Int)] w fun e w' =>
    (∃ v, e = .returned v) ∧ GoK w c k s n nv f ns gv nm w' := by
  cases hc : canB s (f : Int) with
  | false =>
    refine (ugo_busy h f _ hc).mono ?_
    rintro e w' ⟨rfl, rfl⟩
    exact ⟨⟨_, rfl⟩, s, h, hk, hw, rfl, Nat.le_refl _, rfl, Mod.refl _ _⟩
  | true =>
    have hst := hk.st
    have h3 : s.st = 0 ∨ s.st = 1 ∨ s.st = 2 := by omega
    unfold canB at hc
    rcases h3 with h0 | h1 | h2
    · rw [if_pos h0] at hc
      cases hl : s.l with
      | nil => rw [hl] at hc; simp at hc
      | cons v r =>
        refine (ugo_still h f _ v r h0 hl).mono ?_
        rintro e w' ⟨rfl, ⟨lv', hU, ho⟩, hm⟩
        exact ⟨⟨_, rfl⟩, _, hU, hk.go0 h0 hl _ _, hw.go0 h0 rfl rfl rfl, ho, by simp [hl], rfl, hm.mono fun g _ hg => .inl hg⟩
    · rw [if_neg (by omega)] at hc
      have hle : s.mark ≤ (f : Int) := by simpa using hc
      obtain ⟨x, hx, hxr⟩ := hk.now
      obtain ⟨y, hy, hyr⟩ := hk.qv s.work (by rw [if_pos h1]; simp)
      have hne : s.work ≠ s.d.now := fun e => by
        rw [e, hx] at hy; cases hy; rw [hxr] at hyr; cases hyr
      have hvx := hk.ver _ x hx
      rw [if_neg (by omega)] at hvx
      refine (ugo_rec h f _ x y h1 hle hx (by omega) hk.liveNow hy hyr hne ?_).mono ?_
      · have : (s.d.vs.set s.d.now { x with refs := x.refs + 1 })[s.work]? = some y := by rw [List.getElem?_set_ne (fun e => hne e.symm)]; exact hy
        rw [live_some this, hyr]
        simp
      rintro e w' ⟨rfl, hU, hm⟩
      exact ⟨⟨_, rfl⟩, _, hU, hk.go1 h1 hx hy hne _, hw.go1 h1 hle rfl rfl rfl rfl, rfl, Nat.le_refl _, rfl, hm⟩
    · rw [if_neg (by omega)] at hc
      have hle : s.mark ≤ (f : Int) := by simpa using hc
      obtain ⟨_, x, hx, hxr⟩ := hk.old h2
      have hvx := hk.ver _ x hx
      rw [if_pos ⟨h2, rfl⟩] at hvx
      refine (ugo_end h f _ x h2 hle hx (by omega) (by omega) (hk.liveOld h2)).mono ?_
      rintro e w' ⟨rfl, hU, hm⟩
      exact ⟨⟨_, rfl⟩, _, hU, hk.go2 h2 hx _ _, hw.go2 h2 hle rfl rfl rfl, rfl, Nat.le_refl _, rfl, hm⟩
def AskK (w : World) (c : Cf) (k : Uk) (s : Us) (n nv f : Nat) (ns : List Nat) (gv : Nat → Nat) (nm : Nat → Bool) (w' : World) : Prop :=
  ∃ s', Up w' c k s' ∧ Kq n nv s' ∧ Kw c k.N s' f ns gv nm ∧ (s'.lv.ownBlock = s.lv.ownBlock ∨ ∃ q, s'.lv.ownBlock = some q ∧ w.heap.size ≤ q) ∧ s'.l.length ≤ s.l.length + 1 ∧ s'.d.p = s.d.p ∧ Mod (UM k s) w w'
theorem kask_any (h : Up w c k s) (hk : Kq n nv s) (hw : Kw c k.N s f ns gv nm) (am : Option Addr) (nmm cm B2 : Nat) (M : List Mb) (hM : Sl 19 Mb.l 108 w B2 (.slice am nmm cm) M) (hok : mOk M = true) (hn : c.slots = n) (h1 : 1 ≤ n) (h2 : n ≤ 64) (hbig : s.l.length < 100000) :
    Calls Try.prog 10 #[.pointer (some ⟨k.u, 0, none⟩), .slice am nmm cm] w fun e w' => (∃ v, e = .returned v) ∧ AskK w c k s n nv f ns gv nm w' := by
  refine (uask_any h am nmm cm B2 n M hM hok hn h1 h2 hk.S hbig).mono ?_
  rintro e w' ⟨v, hv, hl, ⟨_, rfl, hb⟩ | ⟨hlt, hnl, rfl, plv, psv, lv', hU, hm, ho⟩⟩
  · exact ⟨⟨_, rfl⟩, s, h.below hb, hk, hw, .inl rfl, Nat.le_succ _, rfl, Mod.of_below hb⟩
  · exact ⟨⟨_, rfl⟩, _, hU, hk.ask hlt hnl plv psv lv' M hok h2, hw.same rfl rfl rfl rfl rfl, ho, by simp, rfl, hm⟩
def VerK (w : World) (c : Cf) (k : Uk) (s : Us) (n nv x : Nat) (b : Bool) (v : Nat) (p : Bool) (w' : World) : Prop :=
  ∃ s' y, Up w' c k s' ∧ Kq n nv s' ∧ (∀ (f : Nat) (ns : List Nat) (gv : Nat → Nat) (nm : Nat → Bool), Kw c k.N s f ns gv nm → Kw c k.N s' f ns gv nm) ∧ s'.lv = s.lv ∧ s'.l = s.l ∧ s'.d = s.d ∧ Mod (UM k s) w w' ∧
    s.d.vs[v]? = some y ∧ y.S.length ≤ 64 ∧ liveB s.d.vs s.d.now v = true ∧ (b = true → p = false) ∧
    (∀ (f : Nat) (ns : List Nat) (gv : Nat → Nat) (nm : Nat → Bool) (i : Nat), Kw c k.N s f ns gv nm → ns[i]? = some x → nm x = false → gv x = v) ∧
    (b = false → 0 < y.S.length → ∀ (f : Nat) (ns : List Nat) (gv : Nat → Nat) (nm : Nat → Bool), Kw c k.N s f ns gv nm → x ∉ ns → Kw c k.N s' f (ns ++ [x]) (fun i => if i = x then v else gv i) (fun i => if i = x then p else nm i))
theorem kver_any (h : Up w c k s) (hk : Kq n nv s) (x : Nat) (b : Bool) (hh : 1 ≤ c.hashes) : Calls Try.prog 14 #[.pointer (some ⟨k.u, 0, none⟩), .agg (kc (akey (x : Int) false false)), .bool b] w fun e w' =>
    ∃ v p, e = .returned (.tuple #[.int .i64 (v : Nat), .bool p]) ∧ VerK w c k s n nv x b v p w' := by
  have hst := hk.st
  obtain ⟨y, hy, hyr⟩ := hk.now
  have hyS := (hk.ver _ y hy).1
  have h3 : s.st = 0 ∨ s.st = 1 ∨ s.st = 2 := by omega
  rcases h3 with h0 | h1 | h2
  · refine (uver_still h _ b h0).mono ?_
    rintro e w' ⟨rfl, hb⟩
    refine ⟨s.d.now, false, rfl, s, y, h.below hb, hk, fun _ _ _ _ h => h, rfl, rfl, rfl, Mod.of_below hb, hy, hyS, hk.liveNow, fun _ => rfl, fun f ns gv nm i hw hx hn => ?_, fun _ _ f ns gv nm hw hx => hw.push hx fun _ => ⟨fun _ => rfl, fun e => absurd (h0.symm.trans e) (by decide), fun e => absurd (h0.symm.trans e) (by decide)⟩⟩
    rw [hw.tell hst hx hn, if_neg (by omega)]
  · refine (uver_rec h _ b y h1 hy hk.liveNow hyS).mono ?_
    rintro e w' ⟨rfl, hU, hm⟩
    have hbd : ∀ q ∈ PX c k.N x, q / 64 < s.ws.length := fun q hq => by
      have := pN_lt c (akey (x : Int) false false) k.N h.hN q hq
      rw [h.hl]
      unfold nw
      omega
    have hkq : ∀ ws, Kq n nv { s with ws := ws } := fun ws => ⟨hk.len, hk.st, hk.now, hk.ver, hk.qn, hk.qv, hk.old, hk.S⟩
    by_cases hp : 0 < y.S.length
    · rw [if_pos hp] at hU
      refine ⟨s.d.now, false, rfl, _, y, hU, hkq _, fun f ns gv nm hw => hw.grow h1 hbd, rfl, rfl, rfl, hm, hy, hyS, hk.liveNow, fun _ => rfl, fun f ns gv nm i hw hx hn => ?_, fun _ _ f ns gv nm hw hx => (hw.grow h1 hbd).push hx fun _ => ⟨fun e => absurd (h1.symm.trans e) (by decide), fun _ => ⟨rfl, hasB_ins hbd (PX_ne hh)⟩, fun e => absurd (h1.symm.trans e) (by decide)⟩⟩
      rw [hw.tell hst hx hn, if_neg (by omega)]
    · rw [if_neg hp] at hU
      refine ⟨s.d.now, false, rfl, _, y, hU, hkq _, fun f ns gv nm hw => hw.same rfl rfl rfl rfl rfl, rfl, rfl, rfl, hm, hy, hyS, hk.liveNow, fun _ => rfl, fun f ns gv nm i hw hx hn => ?_, fun _ hp' => absurd hp' hp⟩
      rw [hw.tell hst hx hn, if_neg (by omega)]
  · refine (uver_sw h _ b h2).mono ?_
    rintro e w' ⟨rfl, hb⟩
    rw [show pN c (akey (x : Int) false false) k.N = PX c k.N x from rfl]
    cases hB : hasB s.ws (PX c k.N x) with
    | true =>
      rw [if_pos rfl]
      obtain ⟨_, z, hz, _⟩ := hk.old h2
      refine ⟨s.old, !b, rfl, s, z, h.below hb, hk, fun _ _ _ _ h => h, rfl, rfl, rfl, Mod.of_below hb, hz, (hk.ver _ z hz).1, hk.liveOld h2, fun e => by rw [e]; rfl, fun f ns gv nm i hw hx hn => ?_, fun e _ f ns gv nm hw hx => hw.push hx fun hp => by rw [e] at hp; cases hp⟩
      rw [hw.tell hst hx hn, if_pos ⟨h2, hB⟩]
    | false =>
      rw [if_neg (by decide)]
      refine ⟨s.d.now, false, rfl, s, y, h.below hb, hk, fun _ _ _ _ h => h, rfl, rfl, rfl, Mod.of_below hb, hy, hyS, hk.liveNow, fun _ => rfl, fun f ns gv nm i hw hx hn => ?_, fun _ _ f ns gv nm hw hx => hw.push hx fun _ => ⟨fun e => absurd (h2.symm.trans e) (by decide), fun e => absurd (h2.symm.trans e) (by decide), fun _ => ⟨hB, rfl⟩⟩⟩
      rw [hw.tell hst hx hn, if_neg (by rw [hB]; simp)]
end
end Go.Proofs.Ytgjecemmejaieaa
