/- Two daemons whose clocks are set apart by whole seconds: plain. Decimals: chronobateref16.Decimal; strconv.Itoa with the frame of this seat. A daemon's counts as a text; what a row lays. What is sent, in bounds; an event behind an act, in bounds: plain. Contracts of Do and Same, put together. What was sent, and may be turned; blocks that are no daemon's by their type. -/
import Derived.Test.YtpjfiplejhbdfaaGreatDoorPUbg
import Derived.Test.YtpjfiplejhbdfaaGreatDoorPUau
import Derived.Test.YtpjfiplejhbdfaaGreatDoorPUaa
import Derived.Test.YtpjfiplejhbdfaaGreatDoorPUah
import Derived.Test.YtpjfiplejhbdfaaGreatDoorPUab
import Derived.Laws.BytesArg
import Derived.Test.YtpjfiplejhbdfaaGreatDoorPUad
import Derived.Lib.ItoaLen
import Derived.Test.YtpjfiplejhbdfaaGreatDoorPUao
namespace Go.Proofs.YtpjfiplejhbdfaaGreatDoor
set_option linter.unusedSimpArgs false
open Go.RowKit

/-- A stamp, so many seconds on. -/
def shiftN (s : Int) (x : Nat) : Nat := (((x : Int) + s * 4294967296) % 18446744073709551616).toNat
theorem fromNs_shift (s a : Int) : fromNs (a + s * 1000000000) = shiftN s (fromNs a) := by
  unfold fromNs shiftN
  have h1 : (a + s * 1000000000) / 1000000000 = a / 1000000000 + s := by omega
  have h2 : (a + s * 1000000000) % 1000000000 = a % 1000000000 := by omega
  rw [h1, h2]
  generalize a / 1000000000 = q
  have hr : (a % 1000000000).toNat < 1000000000 := by omega
  generalize (a % 1000000000).toNat = r at *
  have hf : r * 4294967296 / 1000000000 < 4294967296 := by omega
  generalize r * 4294967296 / 1000000000 = f at *
  omega
theorem diffS_shift (s : Int) (a b : Nat) : diffS (shiftN s a) (shiftN s b) = diffS a b := by
  have h : IntKind.i64.wrap (((shiftN s a : Nat) : Int) - (shiftN s b : Nat)) = IntKind.i64.wrap ((a : Int) - b) := by
    rw [wrap_def, wrap_def]
    have : (((shiftN s a : Nat) : Int) - (shiftN s b : Nat)) % 18446744073709551616 = ((a : Int) - b) % 18446744073709551616 := by
      unfold shiftN
      omega
    rw [this]
  unfold diffS
  rw [h]
theorem makeS_shift (s c0 c1 : Int) (r x : Nat) : makeS (c0 + s * 1000000000) (c1 + s * 1000000000) (shiftN s r) (shiftN s x) = makeS c0 c1 r x := by
  unfold makeS
  rw [fromNs_shift, fromNs_shift, diffS_shift, diffS_shift, diffS_shift]
  have : satSub (c1 + s * 1000000000) (c0 + s * 1000000000) = satSub c1 c0 := by
    unfold satSub
    congr 1
    omega
  rw [this]
/-- Peers that were asked when the clock was apart. -/
def PeerS.Set (s : Int) (p q : PeerS) : Prop := ∃ c, q = { p with clock := c } ∧ (p.state ≠ 0 → p.state ≠ 2 → c = p.clock + s * 1000000000)
/-- Two daemons whose clocks are apart. -/
structure Shifted (s : Int) (d m : DaemonS) : Prop where
  c : m.c = d.c
  k : m.k = { d.k with c := d.k.c + s * 1000000000 }
  ps : ∀ i : Nat, (d.ps[i]? = none ∧ m.ps[i]? = none) ∨ ∃ p q, d.ps[i]? = some p ∧ m.ps[i]? = some q ∧ p.Set s q
  ss : m.ss = d.ss
  draw : m.draw = d.draw
  h : m.h = d.h
theorem PeerS.Set.next {s : Int} {p q : PeerS} (h : p.Set s q) : q.next = p.next := by
  obtain ⟨c, rfl, _⟩ := h
  rfl
theorem PeerS.Set.late {s : Int} {p q : PeerS} (h : p.Set s q) (t : Int) : (p.late t).Set s (q.late t) := by
  obtain ⟨c, rfl, h1⟩ := h
  unfold PeerS.late
  have : ({ p with clock := c } : PeerS).isLate t = p.isLate t := rfl
  rw [this]
  split
  · exact ⟨c, rfl, fun e => absurd rfl e⟩
  · exact ⟨c, rfl, h1⟩
theorem PeerS.Set.ask {s : Int} {p q : PeerS} (h : p.Set s q) (t c : Int) (draw : Nat) :
    (p.ask t c draw = none ∧ q.ask t (c + s * 1000000000) draw = none) ∨ ∃ p' q', p.ask t c draw = some p' ∧ q.ask t (c + s * 1000000000) draw = some q' ∧ p'.Set s q' := by
  obtain ⟨c', rfl, h1⟩ := h
  unfold PeerS.ask
  simp only []
  split
  · exact Or.inr ⟨_, _, rfl, rfl, c + s * 1000000000, rfl, fun _ _ => rfl⟩
  · exact Or.inl ⟨rfl, rfl⟩
theorem PeerS.Set.answer {s : Int} {p q : PeerS} (h : p.Set s q) (t c z why : Int) (r x : Nat) :
    (p.answer t c z why r x).1.Set s (q.answer t (c + s * 1000000000) z why (shiftN s r) (shiftN s x)).1 ∧
      (q.answer t (c + s * 1000000000) z why (shiftN s r) (shiftN s x)).2 = (p.answer t c z why r x).2 := by
  obtain ⟨c', rfl, h1⟩ := h
  unfold PeerS.answer
  have hl : ({ p with clock := c' } : PeerS).isLate t = p.isLate t := rfl
  simp only [hl]
  split
  · exact ⟨⟨c', rfl, h1⟩, rfl⟩
  split
  · exact ⟨⟨c', rfl, h1⟩, rfl⟩
  split
  · exact ⟨⟨c', rfl, fun _ e => absurd rfl e⟩, rfl⟩
  split
  · exact ⟨⟨c', rfl, h1⟩, rfl⟩
  split
  · exact ⟨⟨c', rfl, h1⟩, rfl⟩
  · rename_i h2 h0 _ _ _
    refine ⟨⟨c', rfl, fun e => absurd rfl e⟩, ?_⟩
    rw [h1 h0 h2, makeS_shift]
theorem at_shift (k : ClockS) (b h : Int) : ({ k with c := k.c + b } : ClockS).at h = { k.at h with c := (k.at h).c + b } := by
  have h1 : stepOf { k with c := k.c + b } h = stepOf k h := rfl
  unfold ClockS.at
  rw [h1]
  simp only [ClockS.mk.injEq, true_and, and_true]
  omega
theorem adjust_shift (k : ClockS) (b h x : Int) : ({ k with c := k.c + b } : ClockS).adjust h x = { k.adjust h x with c := (k.adjust h x).c + b } := by
  unfold ClockS.adjust
  rw [at_shift]
theorem Shifted.len {s : Int} {d m : DaemonS} (h : Shifted s d m) : m.ps.length = d.ps.length := by
  rcases Nat.lt_trichotomy m.ps.length d.ps.length with h1 | h1 | h1
  · rcases h.ps m.ps.length with ⟨a, _⟩ | ⟨p, q, _, b, _⟩
    · rw [List.getElem?_eq_getElem h1] at a; cases a
    · rw [List.getElem?_eq_none (Nat.le_refl _)] at b; cases b
  · exact h1
  · rcases h.ps d.ps.length with ⟨_, a⟩ | ⟨p, q, b, _⟩
    · rw [List.getElem?_eq_getElem h1] at a; cases a
    · rw [List.getElem?_eq_none (Nat.le_refl _)] at b; cases b
/-- Rows of peers that are apart, entry by entry. -/
inductive Sets (s : Int) : List PeerS → List PeerS → Prop
  | nil : Sets s [] []
  | cons {p q : PeerS} {ps qs : List PeerS} (h : p.Set s q) (hs : Sets s ps qs) : Sets s (p :: ps) (q :: qs)
theorem Sets.of {s : Int} : ∀ {ps qs : List PeerS}, (∀ i : Nat, (ps[i]? = none ∧ qs[i]? = none) ∨ ∃ p q, ps[i]? = some p ∧ qs[i]? = some q ∧ p.Set s q) → Sets s ps qs := by
  intro ps
  induction ps with
  | nil =>
    intro qs h
    cases qs with
    | nil => exact .nil
    | cons q qs => rcases h 0 with ⟨_, a⟩ | ⟨p, q, a, _⟩ <;> simp at a
  | cons p ps ih =>
    intro qs h
    cases qs with
    | nil => rcases h 0 with ⟨a, _⟩ | ⟨p, q, _, a, _⟩ <;> simp at a
    | cons q qs =>
      refine .cons ?_ (ih fun i => ?_)
      · rcases h 0 with ⟨a, _⟩ | ⟨p', q', a, b, c⟩
        · simp at a
        · simp at a b
          subst a b
          exact c
      · simpa using h (i + 1)
theorem Sets.get {s : Int} {ps qs : List PeerS} (h : Sets s ps qs) : ∀ i : Nat, (ps[i]? = none ∧ qs[i]? = none) ∨ ∃ p q, ps[i]? = some p ∧ qs[i]? = some q ∧ p.Set s q := by
  induction h with
  | nil => intro i; exact Or.inl ⟨by simp, by simp⟩
  | cons h _ ih =>
    intro i
    cases i with
    | zero => exact Or.inr ⟨_, _, rfl, rfl, h⟩
    | succ i => simpa using ih i
theorem Sets.wake {s : Int} {ps qs : List PeerS} (h : Sets s ps qs) : wakeS qs = wakeS ps := by
  cases h with
  | nil => rfl
  | cons h hs =>
    show List.foldl _ _ _ = List.foldl _ _ _
    rw [h.next]
    generalize PeerS.next _ = a
    clear h
    induction hs generalizing a with
    | nil => rfl
    | cons h _ ih =>
      rw [List.foldl_cons, List.foldl_cons, h.next]
      exact ih _
theorem Sets.late {s : Int} {ps qs : List PeerS} (h : Sets s ps qs) (t : Int) : Sets s (ps.map (·.late t)) (qs.map (·.late t)) := by
  induction h with
  | nil => exact .nil
  | cons h _ ih => exact .cons (h.late t) ih
theorem Sets.ask {s : Int} {ps qs : List PeerS} (h : Sets s ps qs) (t c : Int) (draw : Nat) : Sets s (askPs t c draw ps) (askPs t (c + s * 1000000000) draw qs) := by
  induction h with
  | nil => exact .nil
  | @cons p q ps qs h _ ih =>
    refine .cons ?_ ih
    show PeerS.Set s ((p.ask t c draw).getD p) ((q.ask t (c + s * 1000000000) draw).getD q)
    rcases h.ask t c draw with ⟨a, b⟩ | ⟨p', q', a, b, g⟩
    · rw [a, b]; exact h
    · rw [a, b]; exact g
theorem Sets.sends {s : Int} {ps qs : List PeerS} (h : Sets s ps qs) (t c : Int) (draw : Nat) : ∀ srv, askSends t (c + s * 1000000000) draw qs srv = askSends t c draw ps srv := by
  induction h with
  | nil => intro srv; rfl
  | cons h _ ih =>
    intro srv
    cases srv with
    | nil => simp [askSends]
    | cons a srv =>
      have hr := ih srv
      unfold askSends at hr ⊢
      rw [List.zip_cons_cons, List.zip_cons_cons, List.filterMap_cons, List.filterMap_cons, hr]
      rcases h.ask t c draw with ⟨x, y⟩ | ⟨p', q', x, y, g⟩
      · simp only [x, y, Option.map_none]
      · simp only [x, y, Option.map_some]
theorem Shifted.sets {s : Int} {d m : DaemonS} (h : Shifted s d m) : Sets s d.ps m.ps := .of h.ps
theorem take_apart {s : Int} {d m : DaemonS} (h : Shifted s d m) (t : Int) : Shifted s (takeS d t) (takeS m t) := by
  obtain ⟨mc, mk, mps, mss, mn, mdraw, mh, mt, mv, mch⟩ := m
  obtain ⟨c, k, ps, ss, dr, hh⟩ := h
  simp only at c k ps ss dr hh
  subst c k ss dr hh
  unfold takeS
  simp only [at_shift]
  split
  · exact ⟨rfl, by simp only [adjust_shift], ps, rfl, rfl, rfl⟩
  · exact ⟨rfl, rfl, ps, rfl, rfl, rfl⟩
theorem Sets.set {s : Int} {ps qs : List PeerS} (h : Sets s ps qs) {p q : PeerS} (hp : p.Set s q) : ∀ i, Sets s (ps.set i p) (qs.set i q) := by
  induction h with
  | nil => intro i; exact .nil
  | cons h hs ih =>
    intro i
    cases i with
    | zero => exact .cons hp hs
    | succ i => exact .cons h (ih i)
theorem Sets.getD {s : Int} {ps qs : List PeerS} (h : Sets s ps qs) (i : Nat) : (ps.getD i zeroPeer).Set s (qs.getD i zeroPeer) := by
  rw [List.getD_eq_getElem?_getD, List.getD_eq_getElem?_getD]
  rcases h.get i with ⟨a, b⟩ | ⟨p, q, a, b, g⟩
  · rw [a, b]
    exact ⟨0, rfl, fun e => absurd rfl e⟩
  · rw [a, b]
    exact g
theorem hear_apart {s : Int} {d m : DaemonS} (h : Shifted s d m) (t a : Int) {l l' : List Nat} (h1 : l'.length = l.length) (h2 : ∀ k, lookR l' k = lookR l k) (h3 : (pktOf l').recv = shiftN s (pktOf l).recv) (h4 : (pktOf l').xmit = shiftN s (pktOf l).xmit) :
    Shifted s (hearS d t a l).1 (hearS m t a l').1 ∧ (hearS m t a l').2 = (hearS d t a l).2 := by
  have hs := h.sets
  have hh := h
  obtain ⟨mc, mk, mps, mss, mn, mdraw, mh, mt, mv, mch⟩ := m
  obtain ⟨c, k, ps, ss, dr, hhh⟩ := h
  simp only at c k ps ss dr hhh hs
  subst c k ss dr hhh
  have hg := hs.getD (placeOf a d.c.srv)
  have hck : (mps.getD (placeOf a d.c.srv) zeroPeer).cookie = (d.ps.getD (placeOf a d.c.srv) zeroPeer).cookie := by
    obtain ⟨c', e, _⟩ := hg
    rw [e]
  have han := hg.answer t (d.k.at t).c (d.k.at t).all (lookR l (d.ps.getD (placeOf a d.c.srv) zeroPeer).cookie) (pktOf l).recv (pktOf l).xmit
  unfold hearS
  simp only [h1, h2, h3, h4, at_shift, hck]
  split
  · exact ⟨hh, rfl⟩
  split
  · exact ⟨hh, rfl⟩
  generalize (d.ps.getD (placeOf a d.c.srv) zeroPeer).answer t (d.k.at t).c (d.k.at t).all (lookR l (d.ps.getD (placeOf a d.c.srv) zeroPeer).cookie) (pktOf l).recv (pktOf l).xmit = r at *
  generalize (mps.getD (placeOf a d.c.srv) zeroPeer).answer t ((d.k.at t).c + s * 1000000000) (d.k.at t).all (lookR l (d.ps.getD (placeOf a d.c.srv) zeroPeer).cookie) (shiftN s (pktOf l).recv) (shiftN s (pktOf l).xmit) = r' at *
  obtain ⟨g1, g2⟩ := han
  have hset := hs.set g1 (placeOf a d.c.srv)
  obtain ⟨r1, r2⟩ := r
  obtain ⟨r1', r2'⟩ := r'
  simp only at g1 g2 hset ⊢
  subst g2
  split
  · exact ⟨⟨rfl, rfl, hset.get, rfl, rfl, rfl⟩, rfl⟩
  · rename_i x _
    have hz : Shifted s { d with ps := d.ps.set (placeOf a d.c.srv) r1, ss := d.ss.set (placeOf a d.c.srv) (storeAdd (d.ss.getD (placeOf a d.c.srv) []) x) }
        ⟨d.c, { d.k with c := d.k.c + s * 1000000000 }, mps.set (placeOf a d.c.srv) r1', d.ss.set (placeOf a d.c.srv) (storeAdd (d.ss.getD (placeOf a d.c.srv) []) x), mn, d.draw, d.h, mt, mv, mch⟩ := ⟨rfl, rfl, hset.get, rfl, rfl, rfl⟩
    exact ⟨take_apart hz t, rfl⟩
/-- Both do the same, but for the clock. -/
theorem Shifted.do {s : Int} {d m : DaemonS} (h : Shifted s d m) {e e' : EvS} (hk : e'.kind = e.kind) (hh : e'.h = e.h) (ha : e'.addr = e.addr) (hdr : e'.draw = e.draw)
    (hdat : e.kind = 1 → e'.data.length = e.data.length ∧ (∀ k, lookR e'.data k = lookR e.data k) ∧ (pktOf e'.data).recv = shiftN s (pktOf e.data).recv ∧ (pktOf e'.data).xmit = shiftN s (pktOf e.data).xmit) :
    errS m e' = errS d e ∧ Shifted s (doS d e).1 (doS m e').1 ∧ (doS m e').2.sends = (doS d e).2.sends ∧ (doS m e').2.wake = (doS d e).2.wake ∧ (doS m e').2.reason = (doS d e).2.reason ∧
      (errS d e = 0 → (doS m e').2.clock = (doS d e).2.clock + s * 1000000000) := by
  have he : errS m e' = errS d e := by
    unfold errS
    rw [hk, hh, h.h]
  have hat : ∀ {d m : DaemonS}, Shifted s d m → ∀ t, (m.k.at t).c = (d.k.at t).c + s * 1000000000 := by
    intro d m h t
    rw [h.k, at_shift]
  refine ⟨he, ?_⟩
  by_cases h0 : errS d e = 0
  · have hw : Shifted s { d with h := e.h } { m with h := e.h } := ⟨h.c, h.k, h.ps, h.ss, h.draw, rfl⟩
    have e1 : ∀ (d : DaemonS) (e : EvS), errS d e = 0 → doS d e = if e.kind = 0 then ((tickS { d with h := e.h } e.h e.draw).1, ⟨(tickS { d with h := e.h } e.h e.draw).2, ((tickS { d with h := e.h } e.h e.draw).1.k.at e.h).c, wakeS (tickS { d with h := e.h } e.h e.draw).1.ps, 0⟩)
        else ((datagramS { d with h := e.h } e.h e.addr e.data).1, ⟨[], ((datagramS { d with h := e.h } e.h e.addr e.data).1.k.at e.h).c, wakeS (datagramS { d with h := e.h } e.h e.addr e.data).1.ps, (datagramS { d with h := e.h } e.h e.addr e.data).2⟩) := by
      intro d e h
      unfold doS
      rw [if_neg (by simp [h])]
    rw [e1 d e h0, e1 m e' (he.trans h0), hk, hh, ha, hdr]
    by_cases hk0 : e.kind = 0
    · rw [if_pos hk0, if_pos hk0]
      have hd : drawOf { m with h := e.h } e.draw = drawOf { d with h := e.h } e.draw := by
        unfold drawOf
        show (if e.draw = 0 then m.draw else e.draw) = if e.draw = 0 then d.draw else e.draw
        rw [h.draw]
      have hp := (h.sets.late e.h).ask e.h (d.k.at e.h).c (drawOf { d with h := e.h } e.draw)
      have hse := (h.sets.late e.h).sends e.h (d.k.at e.h).c (drawOf { d with h := e.h } e.draw) d.c.srv
      have hx : Shifted s (tickS { d with h := e.h } e.h e.draw).1 (tickS { m with h := e.h } e.h e.draw).1 := by
        refine ⟨h.c, h.k, Sets.get ?_, h.ss, hd, rfl⟩
        show Sets s (askPs _ _ _ _) (askPs e.h (m.k.at e.h).c (drawOf { m with h := e.h } e.draw) (m.ps.map (·.late e.h)))
        rw [hd, hat h]
        exact hp
      refine ⟨hx, ?_, hx.sets.wake, rfl, fun _ => hat hx _⟩
      show askSends e.h (m.k.at e.h).c (drawOf { m with h := e.h } e.draw) (m.ps.map (·.late e.h)) m.c.srv = _
      rw [hd, hat h, h.c]
      exact hse
    · rw [if_neg hk0, if_neg hk0]
      have hk1 : e.kind = 1 := by have := (err_none h0).1; omega
      obtain ⟨g1, g2, g3, g4⟩ := hdat hk1
      obtain ⟨x1, x2⟩ := hear_apart hw e.h e.addr g1 g2 g3 g4
      have hx : Shifted s (datagramS { d with h := e.h } e.h e.addr e.data).1 (datagramS { m with h := e.h } e.h e.addr e'.data).1 := ⟨x1.c, x1.k, x1.ps, x1.ss, x1.draw, x1.h⟩
      exact ⟨hx, rfl, hx.sets.wake, x2, fun _ => hat hx _⟩
  · rw [doS_err h0, doS_err (d := m) (e := e') (by rw [he]; exact h0)]
    exact ⟨h, rfl, rfl, rfl, fun x => absurd x h0⟩
end Go.Proofs.YtpjfiplejhbdfaaGreatDoor

namespace Go.Proofs.YtpjfiplejhbdfaaGreatDoor
open Go.RowKit

/-! ### What the rows list -/
def nameL : List (List UInt8) := [[116, 97, 107, 101, 110], [115, 104, 111, 114, 116], [117, 110, 107, 110, 111, 119, 110], [114, 101, 116, 105, 114, 101, 100], [105, 100, 108, 101], [118, 101, 114, 115, 105, 111, 110], [109, 111, 100, 101], [111, 114, 105, 103, 105, 110], [107, 105, 115, 115], [108, 101, 97, 112], [115, 116, 114, 97, 116, 117, 109], [122, 101, 114, 111], [115, 108, 111, 119]]

structure Laid (W : World) : Prop where
  pow : Lib.TabIs Tryz.prog W "internal/strconv.uint64pow10" .u64 Lib.pow10Tab
  names : W.var? Tryz.prog "chronobate/sane.names" = some (nameL.map fun s => Value.string ⟨s.toArray⟩).toArray

theorem co_gPow : Tryz.prog.globalNamed "internal/strconv.uint64pow10" = some 10 := by kernel_rfl
theorem co_gNames : Tryz.prog.globalNamed "chronobate/sane.names" = some 3 := by kernel_rfl

theorem Laid.mod {w w' : World} (h : Laid w) (hm : Mod NoB w w') : Laid w' := ⟨hm.var co_gPow id h.pow, hm.var co_gNames id h.names⟩

theorem Laid.name {w : World} (h : Laid w) (i : Nat) (hi : i < 13) : w.cell? ⟨3, i, none⟩ = some (.string (bs (nameL.getD i []))) := by
  rw [var_cell co_gNames h.names]
  have : nameL.length = 13 := rfl
  simp [List.getD, this, hi]

end Go.Proofs.YtpjfiplejhbdfaaGreatDoor

namespace Go.Proofs.YtpjfiplejhbdfaaGreatDoor
set_option linter.unusedSimpArgs false
open Go.RowKit

/-- What the laws of chapter 17 take of the library's and the program's variables. -/
structure LaidD (w : World) : Prop where
  n : LaidN w
  c : Laid w
theorem LaidD.mod {w w' : World} (h : LaidD w) (hm : Mod NoB w w') : LaidD w' := ⟨h.n.mod hm, h.c.mod hm⟩
end Go.Proofs.YtpjfiplejhbdfaaGreatDoor

namespace Go.Proofs.YtpjfiplejhbdfaaGreatDoor
set_option linter.unusedSimpArgs false
open Go.RowKit

theorem query_len (a : Nat) : (queryP a).bytes.length = 48 := by simp [queryP, PktS.bytes, be_len]
theorem query_lt (a : Nat) : ∀ y ∈ (queryP a).bytes, y < 256 := by
  intro y hy
  simp only [queryP, pkt0, PktS.bytes, List.mem_append, List.mem_cons, List.not_mem_nil, or_false] at hy
  rcases hy with ((((((h | h) | h) | h) | h) | h) | h) | h
  · rcases h with h | h | h | h <;> subst h <;> decide
  all_goals exact be_lt _ _ y h
theorem askSends_len (h c : Int) (draw : Nat) (ps : List PeerS) (srv : List Int) : (askSends h c draw ps srv).length ≤ srv.length := by
  unfold askSends
  refine Nat.le_trans (List.length_filterMap_le _ _) ?_
  rw [List.length_zip]
  omega
theorem do_sendsOk {d : DaemonS} (hd : d.Ok) (e : EvS) : SendsOk (doS d e).2.sends ∧ (doS d e).2.sends.length ≤ 16 := by
  have h16 := (fine_srv (check_fine hd.c)).2.1
  have nil : SendsOk [] ∧ ([] : List (Int × List Nat)).length ≤ 16 := ⟨fun _ h => (by cases h), by decide⟩
  unfold doS
  split
  · exact nil
  · split
    · refine ⟨fun x hx => ?_, ?_⟩
      · obtain ⟨i, p, q, _, _, _, h⟩ := askSends_mem hx
        rw [h, query_len]
        exact ⟨query_lt _, by omega, by omega⟩
      · exact Nat.le_trans (askSends_len _ _ _ _ _) h16
    · exact nil
theorem evOf_in {x : ActS} (ik : I64 x.e.kind) (ih : I64 x.e.h) (ia : I64 x.e.addr) (id' : x.e.draw < 18446744073709551616) (dr : Nat) : I64 (evOf x dr).kind ∧ I64 (evOf x dr).h ∧ I64 (evOf x dr).addr ∧ (evOf x dr).draw < 18446744073709551616 := by
  unfold evOf
  split
  · exact ⟨⟨by simp, by simp⟩, ih, ia, by simp⟩
  · exact ⟨ik, ih, ia, id'⟩
theorem DataAt.lt {w : World} {dp : Option Addr} {n c : Nat} {l : List Nat} (h : DataAt w (.slice dp n c) l) : ∀ bd off, dp = some ⟨bd, off, none⟩ → 0 < l.length → bd < w.heap.size := by
  intro bd off hp h0
  obtain ⟨p, c', h1, _, h3⟩ := h
  obtain ⟨b2, o2, e, _, _, hb⟩ := h3 h0
  obtain ⟨rfl, _⟩ := Value.slice.inj h1
  rw [hp] at e
  cases e
  exact lt_of_cell (hb.cell 0 h0)
/-- Data apart of a daemon that goes on. -/
theorem DTo.data {w w' : World} {P P1 : DPl} (ht : DTo P P1 w w') {dp : Option Addr} {n c : Nat} {l : List Nat} (hda : DataAt w (.slice dp n c) l) (hap : ∀ bd off, dp = some ⟨bd, off, none⟩ → 0 < l.length → ¬ fpD P bd) :
    DataAt w' (.slice dp n c) l ∧ ∀ bd off, dp = some ⟨bd, off, none⟩ → 0 < l.length → ¬ fpD P1 bd :=
  ⟨DataAt.modS hda ht.m (fun bd off p n hp h0 => by obtain ⟨rfl, _⟩ := Value.slice.inj hp; exact hap bd off rfl h0),
   fun bd off e h0 hf => (ht.f _ hf).elim (hap bd off e h0) (fun h => Nat.lt_irrefl _ (Nat.lt_of_lt_of_le (hda.lt bd off e h0) h))⟩
/-- A block apart of a daemon that goes on. -/
theorem DTo.block {w w' : World} {P P1 : DPl} (ht : DTo P P1 w w') {k : Nat} {o : Obj} (h : w.heap[k]? = some o) (hn : ¬ fpD P k) : w'.heap[k]? = some o ∧ ¬ fpD P1 k :=
  ⟨ht.m.heap h hn, fun hf => (ht.f _ hf).elim hn (fun x => Nat.lt_irrefl _ (Nat.lt_of_lt_of_le (by
    rcases Nat.lt_or_ge k w.heap.size with h1 | h1
    · exact h1
    · rw [Array.getElem?_eq_none h1] at h; cases h) x))⟩
/-- A row apart of a daemon that goes on. -/
theorem DTo.row {w w' : World} {P P1 : DPl} (ht : DTo P P1 w w') {base size n : Nat} {e : TypeId} {v : Value} {xs : List Value} (h : w.ownsRow base e size v n xs) (hn : ∀ g, v.ownBlock = some g → ¬ fpD P g) :
    w'.ownsRow base e size v n xs ∧ ∀ g, v.ownBlock = some g → ¬ fpD P1 g :=
  ⟨ownsRow_mod2 h ht.m hn, fun g hg hf => (ht.f _ hf).elim (hn g hg) (fun x => by
    obtain ⟨cur, hcur⟩ := own_block h hg
    exact Nat.lt_irrefl _ (Nat.lt_of_lt_of_le (lt_of_block hcur) x))⟩
/-- What was sent, apart of a daemon that goes on. -/
theorem DTo.sends {w w' : World} {P P1 : DPl} (ht : DTo P P1 w w') {base : Nat} {v : Value} {L : List (Int × List Nat)} (h : SendsAt w base v L) (hn : ∀ k, fpD P k → k < base) : SendsAt w' base v L :=
  h.mod ht.m (fun k hk hf => Nat.lt_irrefl _ (Nat.lt_of_lt_of_le (hn k hf) hk))
/-- Do, at an event. -/
theorem do_z {P : DPl} {d : DaemonS} (hok : d.Ok) {N : Int} (hc : d.Cnt N) (hN : N ≤ 9007199254740992) {z : EvS} (i1 : I64 z.kind) (i2 : I64 z.h) (i4 : z.draw < 18446744073709551616) (dp : Option Addr) (dc : Nat) {w : World} (hd : DO w P d)
    (hda : DataAt w (.slice dp z.data.length dc) z.data) (hap : ∀ bd off, dp = some ⟨bd, off, none⟩ → 0 < z.data.length → ¬ fpD P bd) :
    Calls Tryz.prog 14 #[at0 P.b, evV z.kind z.h z.addr z.draw (.slice dp z.data.length dc)] w (DoPost P (doS d z).1 (doS d z).2 (errS d z) w) :=
  do_any P d hok hc hN z.kind z.h z.addr i1 i2 z.draw i4 dp z.data.length dc z.data w hd hda (fun bd off a b e => hap bd off a b (e ▸ fpD.b))
theorem row_at5 {w : World} {base size n : Nat} {e : TypeId} {v : Value} {xs : List Value} (h : w.ownsRow base e size v n xs) (h0 : 0 < n) :
    ∃ g c, v = .slice (some ⟨g, 0, none⟩) n c ∧ base ≤ g ∧ ∀ i u, xs[i]? = some u → w.cell? ⟨g, i, none⟩ = some u := by
  rcases h.2 with ⟨_, h1⟩ | ⟨g, cap, cur, hv, hb, hg, h3, h4, h5, htk⟩
  · omega
  · refine ⟨g, cap, hv, hb, fun i u hu => cell_of_block hg i ?_⟩
    have hi : i < n * size := by rw [← h.1]; exact (List.getElem?_eq_some_iff.1 hu).1
    rw [← htk, List.getElem?_take_of_lt hi, Array.getElem?_toList] at hu
    exact hu
end Go.Proofs.YtpjfiplejhbdfaaGreatDoor

namespace Go.Proofs.YtpjfiplejhbdfaaGreatDoor
set_option linter.unusedSimpArgs false
open Go.RowKit

theorem do_c (d : DaemonS) (e : EvS) : (doS d e).1.c = d.c := by
  unfold doS
  split
  · rfl
  · split
    · rfl
    · exact (hear_rest _ _ _ _).2.1
theorem do_draw (d : DaemonS) (e : EvS) : (doS d e).1.draw = if errS d e = 0 ∧ e.kind = 0 ∧ e.draw ≠ 0 then e.draw else d.draw := by
  unfold doS
  by_cases h : errS d e = 0
  · rw [if_neg (by simp [h])]
    by_cases hk : e.kind = 0
    · rw [if_pos hk]
      show (if e.draw = 0 then d.draw else e.draw) = _
      by_cases hd : e.draw = 0
      · rw [if_pos hd, if_neg (by simp [hd])]
      · rw [if_neg hd, if_pos ⟨h, hk, hd⟩]
    · rw [if_neg hk, if_neg (by simp [hk])]
      exact (hear_rest _ _ _ _).2.2.2
  · rw [if_pos h, if_neg (by simp [h])]
abbrev tU8 : Option TypeId := some 5
abbrev tSend : Option TypeId := some 48
/-- A row of n sends, whose bytes may have turned. -/
def SendsW (w : World) (base : Nat) (v : Value) (n : Nat) : Prop := ∀ i, i < n → ∃ g c a u m q cur ob, v = .slice (some ⟨g, 0, none⟩) n c ∧ base ≤ g ∧ w.heap[g]? = some ob ∧ tyOf ob = tSend ∧ w.cell? ⟨g, i * 2, none⟩ = some (.int .i64 a) ∧
  w.cell? ⟨g, i * 2 + 1, none⟩ = some (.slice (some ⟨u, 0, none⟩) m q) ∧ base ≤ u ∧ w.heap[u]? = some (.cells cur 5 (0, 0)) ∧ m ≤ cur.size ∧ m ≤ 1000
theorem SendsW.of {w : World} {base : Nat} {v : Value} {L : List (Int × List Nat)} (h : SendsAt w base v L) (hL : SendsOk L) : SendsW w base v L.length := by
  intro i hi
  have hx : L[i]? = some L[i] := List.getElem?_eq_getElem hi
  obtain ⟨g, c, u, h1, h2, h3, h4, h5⟩ := sends_at h hx
  obtain ⟨b1, b2, b3⟩ := hL L[i] (List.getElem_mem hi)
  have hob : ∃ ob, w.heap[g]? = some ob ∧ tyOf ob = tSend := by
    obtain ⟨vs, hl, hr, hd⟩ := h
    rcases hr.2 with ⟨_, h0⟩ | ⟨g', cap, cur, hv, _, hg, _⟩
    · omega
    · rw [h1] at hv
      cases hv
      exact ⟨_, hg, rfl⟩
  obtain ⟨ob, ho1, ho2⟩ := hob
  rcases h5.2 with ⟨_, h0⟩ | ⟨k, cap, cur, hv, hb, hg, hc1, hc2, hc3, _⟩
  · omega
  · subst hv
    exact ⟨g, c, L[i].1, k, L[i].2.length, cap, cur, ob, h1, h2, ho1, ho2, h3, h4, hb, hg, by omega, b3⟩
theorem SendsW.quiet {w w' : World} {base : Nat} {v : Value} {n : Nat} (h : SendsW w base v n) (hm : Mod NoB w w') : SendsW w' base v n := by
  intro i hi
  obtain ⟨g, c, a, u, m, q, cur, ob, h1, h2, h3, h4, h5, h6, h7, h8, h9, h10⟩ := h i hi
  exact ⟨g, c, a, u, m, q, cur, ob, h1, h2, hm.heap h3 id, h4, hm.cellAt id h5, hm.cellAt id h6, h7, hm.heap h8 id, h9, h10⟩
/-- A byte that is turned. -/
theorem SendsW.put {w : World} {base : Nat} {v : Value} {n : Nat} (h : SendsW w base v n) {u : Nat} {cur : Array Value} (hu : w.heap[u]? = some (.cells cur 5 (0, 0))) (j : Nat) (x : Value) : SendsW (w.setCell ⟨u, j, none⟩ x) base v n := by
  have hm : Mod (· = u) w (w.setCell ⟨u, j, none⟩ x) := (Mod.refl _ _).set1 _ _
  intro i hi
  obtain ⟨g, c, a, u', m, q, cur', ob, h1, h2, h3, h4, h5, h6, h7, h8, h9, h10⟩ := h i hi
  have hg : g ≠ u := fun e => by
    subst e
    rw [h3] at hu
    cases hu
    exact absurd (show tU8 = tSend from h4) (by decide)
  by_cases e : u' = u
  · subst e
    rw [h8] at hu
    cases hu
    exact ⟨g, c, a, u', m, q, _, ob, h1, h2, hm.heap h3 hg, h4, hm.cellAt hg h5, hm.cellAt hg h6, h7, heap_setCell_eq h8 x, by simpa using h9, h10⟩
  · exact ⟨g, c, a, u', m, q, cur', ob, h1, h2, hm.heap h3 hg, h4, hm.cellAt hg h5, hm.cellAt hg h6, h7, hm.heap h8 e, h9, h10⟩
/-- What is no daemon's turns no daemon. -/
theorem Two.put {w0 w w' : World} {P P' : DPl} {d m : DaemonS} (h : Two w0 P P' d m w) {S : Nat → Prop} (hm : Mod S w w') (h1 : ∀ k, S k → ¬ fpD P k) (h2 : ∀ k, S k → ¬ fpD P' k) (h0 : ∀ k, S k → w0.heap.size ≤ k) : Two w0 P P' d m w' :=
  ⟨h.d.apart hm h1, h.m.apart hm h2, h.apart, h.loL, h.loR, h.old.into hm (fun k hk => Or.inr (h0 k hk))⟩
theorem One.put {w0 w w' : World} {P : DPl} {d : DaemonS} (h : One w0 P d w) {S : Nat → Prop} (hm : Mod S w w') (h1 : ∀ k, S k → ¬ fpD P k) (h0 : ∀ k, S k → w0.heap.size ≤ k) : One w0 P d w' :=
  ⟨h.d.apart hm h1, h.lo, h.old.into hm (fun k hk => Or.inr (h0 k hk))⟩
/-- A row that is no daemon's. -/
def FreeRow (w : World) (T : TypeId) (size : Nat) (pv : Option Addr) (n : Nat) (Q Q' : DPl) (lo : Nat) : Prop :=
  0 < n → ∃ g cur, pv = some ⟨g, 0, none⟩ ∧ w.heap[g]? = some (.cells cur T (0, 0)) ∧ n * size ≤ cur.size ∧ ¬ fpD Q g ∧ ¬ fpD Q' g ∧ lo ≤ g
theorem FreeRow.of {w0 w w' : World} {Q Q' : DPl} {d m : DaemonS} (h : Two w0 Q Q' d m w) {T : TypeId} {size n c : Nat} {pv : Option Addr} {xs : List Value} (hr : w'.ownsRow w.heap.size T size (.slice pv n c) n xs) : FreeRow w' T size pv n Q Q' w0.heap.size := by
  intro h0
  rcases hr.2 with ⟨_, h1⟩ | ⟨g, cap, cur, hv, hb, hg, h3, h4, h5, htk⟩
  · omega
  · obtain ⟨rfl, _, rfl⟩ := Value.slice.inj hv
    refine ⟨g, cur, rfl, hg, ?_, fun x => ?_, fun x => ?_, Nat.le_trans h.old.size hb⟩
    · rw [h5]
      exact Nat.mul_le_mul_right _ h3
    · have := h.d.lt _ x
      omega
    · have := h.m.lt _ x
      omega
theorem FreeRow.quiet {w w' : World} {T : TypeId} {size n : Nat} {pv : Option Addr} {Q Q' : DPl} {lo : Nat} (h : FreeRow w T size pv n Q Q' lo) (hm : Mod NoB w w') : FreeRow w' T size pv n Q Q' lo := fun h0 =>
  let ⟨g, cur, h1, h2, h3⟩ := h h0
  ⟨g, cur, h1, hm.heap h2 id, h3⟩
/-- A cell of such a row is turned. -/
theorem FreeRow.put {w : World} {T : TypeId} {size n : Nat} {g : Nat} {Q Q' : DPl} {lo : Nat} (h : FreeRow w T size (some ⟨g, 0, none⟩) n Q Q' lo) (j : Nat) (x : Value) : FreeRow (w.setCell ⟨g, j, none⟩ x) T size (some ⟨g, 0, none⟩) n Q Q' lo := fun h0 =>
  let ⟨g', cur, h1, h2, h3, h4⟩ := h h0
  by
    cases h1
    exact ⟨g, _, rfl, heap_setCell_eq h2 x, by simpa using h3, h4⟩
end Go.Proofs.YtpjfiplejhbdfaaGreatDoor

