/- Two daemons whose clocks are set apart by whole seconds: plain. Decimals: chronobateref16.Decimal; strconv.Itoa with the frame of this seat. Package count: the counts' text. A daemon's counts as a text; what a row lays. -/
import Derived.Test.YtkajhggdgpbfeaaGreatDoorPUbh
import Derived.Test.YtkajhggdgpbfeaaGreatDoorPUav
import Derived.Test.YtkajhggdgpbfeaaGreatDoorPUah
import Derived.Test.YtkajhggdgpbfeaaGreatDoorPUab
import Derived.Laws.BytesArg
import Derived.Test.YtkajhggdgpbfeaaGreatDoorPUad
import Derived.Lib.ItoaLen
import Derived.Test.YtkajhggdgpbfeaaGreatDoorPUao
namespace Go.Proofs.YtkajhggdgpbfeaaGreatDoor
set_option linter.unusedSimpArgs false
open Go.RowKit

/-- A stamp, so many seconds on. -/
def shiftN (s : Int) (x : Nat) : Nat := (((x : Int) + s * 4294967296) % 18446744073709551616).toNat
theorem shiftN_lt (s : Int) (x : Nat) : shiftN s x < 18446744073709551616 := by unfold shiftN; omega
theorem fromNs_shift (s a : Int) : fromNs (a + s * 1000000000) = shiftN s (fromNs a) := by
  unfold fromNs shiftN
  have h1 : (a + s * 1000000000) / 1000000000 = a / 1000000000 + s := by omega
  have h2 : (a + s * 1000000000) % 1000000000 = a % 1000000000 := by omega
  rw [h1, h2]
  generalize a / 1000000000 = q
  have hr : (a % 1000000000).toNat < 1000000000 := by omega
  generalize (a % 1000000000).toNat = r at *
  have hf : r * 4294967296 / 1000000000 < 4294967296 := by omega
  generalize r * 4294967296 / 1000000000 = f at *
  omega
theorem diffS_shift (s : Int) (a b : Nat) : diffS (shiftN s a) (shiftN s b) = diffS a b := by
  have h : IntKind.i64.wrap (((shiftN s a : Nat) : Int) - (shiftN s b : Nat)) = IntKind.i64.wrap ((a : Int) - b) := by
    rw [wrap_def, wrap_def]
    have : (((shiftN s a : Nat) : Int) - (shiftN s b : Nat)) % 18446744073709551616 = ((a : Int) - b) % 18446744073709551616 := by
      unfold shiftN
      omega
    rw [this]
  unfold diffS
  rw [h]
theorem makeS_shift (s c0 c1 : Int) (r x : Nat) : makeS (c0 + s * 1000000000) (c1 + s * 1000000000) (shiftN s r) (shiftN s x) = makeS c0 c1 r x := by
  unfold makeS
  rw [fromNs_shift, fromNs_shift, diffS_shift, diffS_shift, diffS_shift]
  have : satSub (c1 + s * 1000000000) (c0 + s * 1000000000) = satSub c1 c0 := by
    unfold satSub
    congr 1
    omega
  rw [this]
theorem pkt_good {a b c : Nat} (ha : a < 18446744073709551616) (hb : b < 18446744073709551616) (hc : c < 18446744073709551616) :
    pktOf (goodP a b c).bytes = goodP a b c := by
  have w1 : wordAt (goodP a b c).bytes 24 8 = a := by
    unfold wordAt
    rw [show (((goodP a b c).bytes.drop 24).take 8) = be 8 a by rfl]
    exact word_id ha
  have w2 : wordAt (goodP a b c).bytes 32 8 = b := by
    unfold wordAt
    rw [show (((goodP a b c).bytes.drop 32).take 8) = be 8 b by rfl]
    exact word_id hb
  have w3 : wordAt (goodP a b c).bytes 40 8 = c := by
    unfold wordAt
    rw [show (((goodP a b c).bytes.drop 40).take 8) = be 8 c by rfl]
    exact word_id hc
  have g0 : (goodP a b c).bytes.getD 0 0 = 36 := rfl
  have g1 : (goodP a b c).bytes.getD 1 0 = 1 := rfl
  have g2 : (goodP a b c).bytes.getD 2 0 = 0 := rfl
  have g3 : (goodP a b c).bytes.getD 3 0 = 0 := rfl
  have g4 : wordAt (goodP a b c).bytes 4 4 = 0 := by
    unfold wordAt
    rw [show (((goodP a b c).bytes.drop 4).take 4) = be 4 0 by rfl]
    decide
  have g5 : wordAt (goodP a b c).bytes 8 4 = 0 := by
    unfold wordAt
    rw [show (((goodP a b c).bytes.drop 8).take 4) = be 4 0 by rfl]
    decide
  have g6 : wordAt (goodP a b c).bytes 12 4 = 0 := by
    unfold wordAt
    rw [show (((goodP a b c).bytes.drop 12).take 4) = be 4 0 by rfl]
    decide
  have g7 : wordAt (goodP a b c).bytes 16 8 = 0 := by
    unfold wordAt
    rw [show (((goodP a b c).bytes.drop 16).take 8) = be 8 0 by rfl]
    decide
  unfold pktOf
  rw [w1, w2, w3, g0, g1, g2, g3, g4, g5, g6, g7]
  simp [goodP, pkt0, i8of]
/-- Peers that were asked when the clock was apart. -/
def PeerS.Set (s : Int) (p q : PeerS) : Prop := ∃ c, q = { p with clock := c } ∧ (p.state ≠ 0 → p.state ≠ 2 → c = p.clock + s * 1000000000)
/-- Two daemons whose clocks are apart. -/
structure Shifted (s : Int) (d m : DaemonS) : Prop where
  c : m.c = d.c
  k : m.k = { d.k with c := d.k.c + s * 1000000000 }
  ps : ∀ i : Nat, (d.ps[i]? = none ∧ m.ps[i]? = none) ∨ ∃ p q, d.ps[i]? = some p ∧ m.ps[i]? = some q ∧ p.Set s q
  ss : m.ss = d.ss
  draw : m.draw = d.draw
  h : m.h = d.h
theorem PeerS.Set.next {s : Int} {p q : PeerS} (h : p.Set s q) : q.next = p.next := by
  obtain ⟨c, rfl, _⟩ := h
  rfl
theorem PeerS.Set.late {s : Int} {p q : PeerS} (h : p.Set s q) (t : Int) : (p.late t).Set s (q.late t) := by
  obtain ⟨c, rfl, h1⟩ := h
  unfold PeerS.late
  have : ({ p with clock := c } : PeerS).isLate t = p.isLate t := rfl
  rw [this]
  split
  · exact ⟨c, rfl, fun e => absurd rfl e⟩
  · exact ⟨c, rfl, h1⟩
theorem PeerS.Set.ask {s : Int} {p q : PeerS} (h : p.Set s q) (t c : Int) (draw : Nat) :
    (p.ask t c draw = none ∧ q.ask t (c + s * 1000000000) draw = none) ∨ ∃ p' q', p.ask t c draw = some p' ∧ q.ask t (c + s * 1000000000) draw = some q' ∧ p'.Set s q' := by
  obtain ⟨c', rfl, h1⟩ := h
  unfold PeerS.ask
  simp only []
  split
  · exact Or.inr ⟨_, _, rfl, rfl, c + s * 1000000000, rfl, fun _ _ => rfl⟩
  · exact Or.inl ⟨rfl, rfl⟩
theorem PeerS.Set.answer {s : Int} {p q : PeerS} (h : p.Set s q) (t c z why : Int) (r x : Nat) :
    (p.answer t c z why r x).1.Set s (q.answer t (c + s * 1000000000) z why (shiftN s r) (shiftN s x)).1 ∧
      (q.answer t (c + s * 1000000000) z why (shiftN s r) (shiftN s x)).2 = (p.answer t c z why r x).2 := by
  obtain ⟨c', rfl, h1⟩ := h
  unfold PeerS.answer
  have hl : ({ p with clock := c' } : PeerS).isLate t = p.isLate t := rfl
  simp only [hl]
  split
  · exact ⟨⟨c', rfl, h1⟩, rfl⟩
  split
  · exact ⟨⟨c', rfl, h1⟩, rfl⟩
  split
  · exact ⟨⟨c', rfl, fun _ e => absurd rfl e⟩, rfl⟩
  split
  · exact ⟨⟨c', rfl, h1⟩, rfl⟩
  split
  · exact ⟨⟨c', rfl, h1⟩, rfl⟩
  · rename_i h2 h0 _ _ _
    refine ⟨⟨c', rfl, fun e => absurd rfl e⟩, ?_⟩
    rw [h1 h0 h2, makeS_shift]
theorem at_shift (k : ClockS) (b h : Int) : ({ k with c := k.c + b } : ClockS).at h = { k.at h with c := (k.at h).c + b } := by
  have h1 : stepOf { k with c := k.c + b } h = stepOf k h := rfl
  unfold ClockS.at
  rw [h1]
  simp only [ClockS.mk.injEq, true_and, and_true]
  omega
theorem adjust_shift (k : ClockS) (b h x : Int) : ({ k with c := k.c + b } : ClockS).adjust h x = { k.adjust h x with c := (k.adjust h x).c + b } := by
  unfold ClockS.adjust
  rw [at_shift]
theorem newS_apart (c : Cfg) (h s : Int) : Shifted s (newS c h 0) (newS c h (s * 1000000000)) := by
  refine ⟨rfl, ?_, fun i => ?_, rfl, rfl, rfl⟩
  · show (⟨h, s * 1000000000, 0, 0, c.s⟩ : ClockS) = ⟨h, 0 + s * 1000000000, 0, 0, c.s⟩
    rw [Int.zero_add]
  · show ((c.srv.map fun _ => newPeer c h)[i]? = none ∧ _) ∨ _
    rw [show (newS c h 0).ps = c.srv.map fun _ => newPeer c h from rfl, show (newS c h (s * 1000000000)).ps = c.srv.map fun _ => newPeer c h from rfl]
    cases hx : (c.srv.map fun _ => newPeer c h)[i]? with
    | none => exact Or.inl ⟨rfl, rfl⟩
    | some p =>
      refine Or.inr ⟨p, p, rfl, rfl, p.clock, rfl, fun e => ?_⟩
      obtain ⟨_, _, rfl⟩ := List.mem_map.1 (List.mem_of_getElem? hx)
      exact absurd rfl e
theorem Shifted.len {s : Int} {d m : DaemonS} (h : Shifted s d m) : m.ps.length = d.ps.length := by
  rcases Nat.lt_trichotomy m.ps.length d.ps.length with h1 | h1 | h1
  · rcases h.ps m.ps.length with ⟨a, _⟩ | ⟨p, q, _, b, _⟩
    · rw [List.getElem?_eq_getElem h1] at a; cases a
    · rw [List.getElem?_eq_none (Nat.le_refl _)] at b; cases b
  · exact h1
  · rcases h.ps d.ps.length with ⟨_, a⟩ | ⟨p, q, b, _⟩
    · rw [List.getElem?_eq_getElem h1] at a; cases a
    · rw [List.getElem?_eq_none (Nat.le_refl _)] at b; cases b
/-- Rows of peers that are apart, entry by entry. -/
inductive Sets (s : Int) : List PeerS → List PeerS → Prop
  | nil : Sets s [] []
  | cons {p q : PeerS} {ps qs : List PeerS} (h : p.Set s q) (hs : Sets s ps qs) : Sets s (p :: ps) (q :: qs)
theorem Sets.of {s : Int} : ∀ {ps qs : List PeerS}, (∀ i : Nat, (ps[i]? = none ∧ qs[i]? = none) ∨ ∃ p q, ps[i]? = some p ∧ qs[i]? = some q ∧ p.Set s q) → Sets s ps qs := by
  intro ps
  induction ps with
  | nil =>
    intro qs h
    cases qs with
    | nil => exact .nil
    | cons q qs => rcases h 0 with ⟨_, a⟩ | ⟨p, q, a, _⟩ <;> simp at a
  | cons p ps ih =>
    intro qs h
    cases qs with
    | nil => rcases h 0 with ⟨a, _⟩ | ⟨p, q, _, a, _⟩ <;> simp at a
    | cons q qs =>
      refine .cons ?_ (ih fun i => ?_)
      · rcases h 0 with ⟨a, _⟩ | ⟨p', q', a, b, c⟩
        · simp at a
        · simp at a b
          subst a b
          exact c
      · simpa using h (i + 1)
theorem Sets.get {s : Int} {ps qs : List PeerS} (h : Sets s ps qs) : ∀ i : Nat, (ps[i]? = none ∧ qs[i]? = none) ∨ ∃ p q, ps[i]? = some p ∧ qs[i]? = some q ∧ p.Set s q := by
  induction h with
  | nil => intro i; exact Or.inl ⟨by simp, by simp⟩
  | cons h _ ih =>
    intro i
    cases i with
    | zero => exact Or.inr ⟨_, _, rfl, rfl, h⟩
    | succ i => simpa using ih i
theorem Sets.wake {s : Int} {ps qs : List PeerS} (h : Sets s ps qs) : wakeS qs = wakeS ps := by
  cases h with
  | nil => rfl
  | cons h hs =>
    show List.foldl _ _ _ = List.foldl _ _ _
    rw [h.next]
    generalize PeerS.next _ = a
    clear h
    induction hs generalizing a with
    | nil => rfl
    | cons h _ ih =>
      rw [List.foldl_cons, List.foldl_cons, h.next]
      exact ih _
theorem Sets.late {s : Int} {ps qs : List PeerS} (h : Sets s ps qs) (t : Int) : Sets s (ps.map (·.late t)) (qs.map (·.late t)) := by
  induction h with
  | nil => exact .nil
  | cons h _ ih => exact .cons (h.late t) ih
theorem Sets.ask {s : Int} {ps qs : List PeerS} (h : Sets s ps qs) (t c : Int) (draw : Nat) : Sets s (askPs t c draw ps) (askPs t (c + s * 1000000000) draw qs) := by
  induction h with
  | nil => exact .nil
  | @cons p q ps qs h _ ih =>
    refine .cons ?_ ih
    show PeerS.Set s ((p.ask t c draw).getD p) ((q.ask t (c + s * 1000000000) draw).getD q)
    rcases h.ask t c draw with ⟨a, b⟩ | ⟨p', q', a, b, g⟩
    · rw [a, b]; exact h
    · rw [a, b]; exact g
theorem Sets.sends {s : Int} {ps qs : List PeerS} (h : Sets s ps qs) (t c : Int) (draw : Nat) : ∀ srv, askSends t (c + s * 1000000000) draw qs srv = askSends t c draw ps srv := by
  induction h with
  | nil => intro srv; rfl
  | cons h _ ih =>
    intro srv
    cases srv with
    | nil => simp [askSends]
    | cons a srv =>
      have hr := ih srv
      unfold askSends at hr ⊢
      rw [List.zip_cons_cons, List.zip_cons_cons, List.filterMap_cons, List.filterMap_cons, hr]
      rcases h.ask t c draw with ⟨x, y⟩ | ⟨p', q', x, y, g⟩
      · simp only [x, y, Option.map_none]
      · simp only [x, y, Option.map_some]
theorem Shifted.sets {s : Int} {d m : DaemonS} (h : Shifted s d m) : Sets s d.ps m.ps := .of h.ps
theorem take_apart {s : Int} {d m : DaemonS} (h : Shifted s d m) (t : Int) : Shifted s (takeS d t) (takeS m t) := by
  obtain ⟨mc, mk, mps, mss, mn, mdraw, mh, mt, mv, mch⟩ := m
  obtain ⟨c, k, ps, ss, dr, hh⟩ := h
  simp only at c k ps ss dr hh
  subst c k ss dr hh
  unfold takeS
  simp only [at_shift]
  split
  · exact ⟨rfl, by simp only [adjust_shift], ps, rfl, rfl, rfl⟩
  · exact ⟨rfl, rfl, ps, rfl, rfl, rfl⟩
theorem Sets.set {s : Int} {ps qs : List PeerS} (h : Sets s ps qs) {p q : PeerS} (hp : p.Set s q) : ∀ i, Sets s (ps.set i p) (qs.set i q) := by
  induction h with
  | nil => intro i; exact .nil
  | cons h hs ih =>
    intro i
    cases i with
    | zero => exact .cons hp hs
    | succ i => exact .cons h (ih i)
theorem Sets.getD {s : Int} {ps qs : List PeerS} (h : Sets s ps qs) (i : Nat) : (ps.getD i zeroPeer).Set s (qs.getD i zeroPeer) := by
  rw [List.getD_eq_getElem?_getD, List.getD_eq_getElem?_getD]
  rcases h.get i with ⟨a, b⟩ | ⟨p, q, a, b, g⟩
  · rw [a, b]
    exact ⟨0, rfl, fun e => absurd rfl e⟩
  · rw [a, b]
    exact g
theorem hear_apart {s : Int} {d m : DaemonS} (h : Shifted s d m) (t a : Int) {l l' : List Nat} (h1 : l'.length = l.length) (h2 : ∀ k, lookR l' k = lookR l k) (h3 : (pktOf l').recv = shiftN s (pktOf l).recv) (h4 : (pktOf l').xmit = shiftN s (pktOf l).xmit) :
    Shifted s (hearS d t a l).1 (hearS m t a l').1 ∧ (hearS m t a l').2 = (hearS d t a l).2 := by
  have hs := h.sets
  have hh := h
  obtain ⟨mc, mk, mps, mss, mn, mdraw, mh, mt, mv, mch⟩ := m
  obtain ⟨c, k, ps, ss, dr, hhh⟩ := h
  simp only at c k ps ss dr hhh hs
  subst c k ss dr hhh
  have hg := hs.getD (placeOf a d.c.srv)
  have hck : (mps.getD (placeOf a d.c.srv) zeroPeer).cookie = (d.ps.getD (placeOf a d.c.srv) zeroPeer).cookie := by
    obtain ⟨c', e, _⟩ := hg
    rw [e]
  have han := hg.answer t (d.k.at t).c (d.k.at t).all (lookR l (d.ps.getD (placeOf a d.c.srv) zeroPeer).cookie) (pktOf l).recv (pktOf l).xmit
  unfold hearS
  simp only [h1, h2, h3, h4, at_shift, hck]
  split
  · exact ⟨hh, rfl⟩
  split
  · exact ⟨hh, rfl⟩
  generalize (d.ps.getD (placeOf a d.c.srv) zeroPeer).answer t (d.k.at t).c (d.k.at t).all (lookR l (d.ps.getD (placeOf a d.c.srv) zeroPeer).cookie) (pktOf l).recv (pktOf l).xmit = r at *
  generalize (mps.getD (placeOf a d.c.srv) zeroPeer).answer t ((d.k.at t).c + s * 1000000000) (d.k.at t).all (lookR l (d.ps.getD (placeOf a d.c.srv) zeroPeer).cookie) (shiftN s (pktOf l).recv) (shiftN s (pktOf l).xmit) = r' at *
  obtain ⟨g1, g2⟩ := han
  have hset := hs.set g1 (placeOf a d.c.srv)
  obtain ⟨r1, r2⟩ := r
  obtain ⟨r1', r2'⟩ := r'
  simp only at g1 g2 hset ⊢
  subst g2
  split
  · exact ⟨⟨rfl, rfl, hset.get, rfl, rfl, rfl⟩, rfl⟩
  · rename_i x _
    have hz : Shifted s { d with ps := d.ps.set (placeOf a d.c.srv) r1, ss := d.ss.set (placeOf a d.c.srv) (storeAdd (d.ss.getD (placeOf a d.c.srv) []) x) }
        ⟨d.c, { d.k with c := d.k.c + s * 1000000000 }, mps.set (placeOf a d.c.srv) r1', d.ss.set (placeOf a d.c.srv) (storeAdd (d.ss.getD (placeOf a d.c.srv) []) x), mn, d.draw, d.h, mt, mv, mch⟩ := ⟨rfl, rfl, hset.get, rfl, rfl, rfl⟩
    exact ⟨take_apart hz t, rfl⟩
/-- Both do the same, but for the clock. -/
theorem Shifted.do {s : Int} {d m : DaemonS} (h : Shifted s d m) {e e' : EvS} (hk : e'.kind = e.kind) (hh : e'.h = e.h) (ha : e'.addr = e.addr) (hdr : e'.draw = e.draw)
    (hdat : e.kind = 1 → e'.data.length = e.data.length ∧ (∀ k, lookR e'.data k = lookR e.data k) ∧ (pktOf e'.data).recv = shiftN s (pktOf e.data).recv ∧ (pktOf e'.data).xmit = shiftN s (pktOf e.data).xmit) :
    errS m e' = errS d e ∧ Shifted s (doS d e).1 (doS m e').1 ∧ (doS m e').2.sends = (doS d e).2.sends ∧ (doS m e').2.wake = (doS d e).2.wake ∧ (doS m e').2.reason = (doS d e).2.reason ∧
      (errS d e = 0 → (doS m e').2.clock = (doS d e).2.clock + s * 1000000000) := by
  have he : errS m e' = errS d e := by
    unfold errS
    rw [hk, hh, h.h]
  have hat : ∀ {d m : DaemonS}, Shifted s d m → ∀ t, (m.k.at t).c = (d.k.at t).c + s * 1000000000 := by
    intro d m h t
    rw [h.k, at_shift]
  refine ⟨he, ?_⟩
  by_cases h0 : errS d e = 0
  · have hw : Shifted s { d with h := e.h } { m with h := e.h } := ⟨h.c, h.k, h.ps, h.ss, h.draw, rfl⟩
    have e1 : ∀ (d : DaemonS) (e : EvS), errS d e = 0 → doS d e = if e.kind = 0 then ((tickS { d with h := e.h } e.h e.draw).1, ⟨(tickS { d with h := e.h } e.h e.draw).2, ((tickS { d with h := e.h } e.h e.draw).1.k.at e.h).c, wakeS (tickS { d with h := e.h } e.h e.draw).1.ps, 0⟩)
        else ((datagramS { d with h := e.h } e.h e.addr e.data).1, ⟨[], ((datagramS { d with h := e.h } e.h e.addr e.data).1.k.at e.h).c, wakeS (datagramS { d with h := e.h } e.h e.addr e.data).1.ps, (datagramS { d with h := e.h } e.h e.addr e.data).2⟩) := by
      intro d e h
      unfold doS
      rw [if_neg (by simp [h])]
    rw [e1 d e h0, e1 m e' (he.trans h0), hk, hh, ha, hdr]
    by_cases hk0 : e.kind = 0
    · rw [if_pos hk0, if_pos hk0]
      have hd : drawOf { m with h := e.h } e.draw = drawOf { d with h := e.h } e.draw := by
        unfold drawOf
        show (if e.draw = 0 then m.draw else e.draw) = if e.draw = 0 then d.draw else e.draw
        rw [h.draw]
      have hp := (h.sets.late e.h).ask e.h (d.k.at e.h).c (drawOf { d with h := e.h } e.draw)
      have hse := (h.sets.late e.h).sends e.h (d.k.at e.h).c (drawOf { d with h := e.h } e.draw) d.c.srv
      have hx : Shifted s (tickS { d with h := e.h } e.h e.draw).1 (tickS { m with h := e.h } e.h e.draw).1 := by
        refine ⟨h.c, h.k, Sets.get ?_, h.ss, hd, rfl⟩
        show Sets s (askPs _ _ _ _) (askPs e.h (m.k.at e.h).c (drawOf { m with h := e.h } e.draw) (m.ps.map (·.late e.h)))
        rw [hd, hat h]
        exact hp
      refine ⟨hx, ?_, hx.sets.wake, rfl, fun _ => hat hx _⟩
      show askSends e.h (m.k.at e.h).c (drawOf { m with h := e.h } e.draw) (m.ps.map (·.late e.h)) m.c.srv = _
      rw [hd, hat h, h.c]
      exact hse
    · rw [if_neg hk0, if_neg hk0]
      have hk1 : e.kind = 1 := by have := (err_none h0).1; omega
      obtain ⟨g1, g2, g3, g4⟩ := hdat hk1
      obtain ⟨x1, x2⟩ := hear_apart hw e.h e.addr g1 g2 g3 g4
      have hx : Shifted s (datagramS { d with h := e.h } e.h e.addr e.data).1 (datagramS { m with h := e.h } e.h e.addr e'.data).1 := ⟨x1.c, x1.k, x1.ps, x1.ss, x1.draw, x1.h⟩
      exact ⟨hx, rfl, hx.sets.wake, x2, fun _ => hat hx _⟩
  · rw [doS_err h0, doS_err (d := m) (e := e') (by rw [he]; exact h0)]
    exact ⟨h, rfl, rfl, rfl, fun x => absurd x h0⟩
/-- Good answers of stamps that are apart. -/
theorem good_apart (s : Int) {draw a : Nat} (hd : draw < 18446744073709551616) (ha : a < 18446744073709551616) (h0 : a ≠ 0) (h1 : shiftN s a ≠ 0) :
    (goodP draw (shiftN s a) (shiftN s a)).bytes.length = (goodP draw a a).bytes.length ∧ (∀ k, lookR (goodP draw (shiftN s a) (shiftN s a)).bytes k = lookR (goodP draw a a).bytes k) ∧
      (pktOf (goodP draw (shiftN s a) (shiftN s a)).bytes).recv = shiftN s (pktOf (goodP draw a a).bytes).recv ∧ (pktOf (goodP draw (shiftN s a) (shiftN s a)).bytes).xmit = shiftN s (pktOf (goodP draw a a).bytes).xmit := by
  have hs := shiftN_lt s a
  rw [good_len, good_len, pkt_good hd hs hs, pkt_good hd ha ha]
  refine ⟨rfl, fun k => ?_, rfl, rfl⟩
  unfold lookR
  rw [good_len, good_len, pkt_good hd hs hs, pkt_good hd ha ha]
  unfold testR goodP
  simp only [h0, h1, or_self]
end Go.Proofs.YtkajhggdgpbfeaaGreatDoor

namespace Go.Proofs.YtkajhggdgpbfeaaGreatDoor
open Go.RowKit

theorem co_bytes_append (a b : List UInt8) : (⟨a.toArray⟩ : ByteArray) ++ ⟨b.toArray⟩ = ⟨(a ++ b).toArray⟩ := by
  apply ByteArray.ext
  simp

/-! ### What the rows list -/
def nameL : List (List UInt8) := [[116, 97, 107, 101, 110], [115, 104, 111, 114, 116], [117, 110, 107, 110, 111, 119, 110], [114, 101, 116, 105, 114, 101, 100], [105, 100, 108, 101], [118, 101, 114, 115, 105, 111, 110], [109, 111, 100, 101], [111, 114, 105, 103, 105, 110], [107, 105, 115, 115], [108, 101, 97, 112], [115, 116, 114, 97, 116, 117, 109], [122, 101, 114, 111], [115, 108, 111, 119]]

structure Laid (W : World) : Prop where
  pow : Lib.TabIs Tryz.prog W "internal/strconv.uint64pow10" .u64 Lib.pow10Tab
  names : W.var? Tryz.prog "chronobate/sane.names" = some (nameL.map fun s => Value.string ⟨s.toArray⟩).toArray

theorem co_gPow : Tryz.prog.globalNamed "internal/strconv.uint64pow10" = some 6 := by kernel_rfl
theorem co_gNames : Tryz.prog.globalNamed "chronobate/sane.names" = some 2 := by kernel_rfl

theorem Laid.mod {w w' : World} (h : Laid w) (hm : Mod NoB w w') : Laid w' := ⟨hm.var co_gPow id h.pow, hm.var co_gNames id h.names⟩

theorem Laid.name {w : World} (h : Laid w) (i : Nat) (hi : i < 13) : w.cell? ⟨2, i, none⟩ = some (.string (bs (nameL.getD i []))) := by
  rw [var_cell co_gNames h.names]
  have : nameL.length = 13 := rfl
  simp [List.getD, this, hi]

theorem co_itoa_any (n : Int) (hn : I64 n) (w : World) (h : Laid w) :
    Calls Tryz.prog 98 #[.int .i64 n] w fun e w' => e = .returned (.string (bs (Lib.itoa n))) ∧ Mod NoB w w' :=
  (Tryz.strconv_Itoa n hn.1 hn.2 w h.pow).mono fun e w' ⟨he, k, os, hw⟩ => ⟨he, by rw [hw]; exact ((Mod.refl _ _).drewN k).grow os⟩

/-- A list of the names, just made. -/
def NamesPost (w : World) (e : Ending) (w' : World) : Prop :=
  ∃ r cap, e = .returned (.slice (some ⟨r, 0, none⟩) 13 cap) ∧ (∀ i, i < 13 → w'.cell? ⟨r, i, none⟩ = some (.string (bs (nameL.getD i [])))) ∧ w.heap.size ≤ r ∧ r < w'.heap.size ∧ Mod NoB w w'

theorem co_names_any (w : World) (h : Laid w) : Calls Tryz.prog 97 #[] w (NamesPost w) := by
  have hc : ∀ j, j < (nameL.map bs).length → w.cell? ⟨2, 0 + j, none⟩ = some (.string ((nameL.map bs).getD j ByteArray.empty)) := by
    intro j hj
    have hj' : j < nameL.length := by simpa using hj
    rw [Nat.zero_add, h.name j hj']
    simp [List.getD, hj']
  replace h := hide h
  replace hc := hide hc
  go_enter Tryz.func97, Tryz.ntmps97
  go_wp2_with fail
  refine (Tryz.slices_Clone_string 2 0 13 13 (nameL.map bs) _ (by decide) (by decide) hc.out).mono ?_
  rintro e w1 ⟨v, rfl, hown, hne, hb⟩
  obtain ⟨r, cap, rfl⟩ : ∃ g cap, v = .slice (some ⟨g, 0, none⟩) 13 cap := by
    rcases hown.2 with ⟨_, h0⟩ | ⟨g, cap, _, hv, _⟩
    · omega
    · exact ⟨g, cap, hv⟩
  have hcell : ∀ i, i < 13 → w1.cell? ⟨r, i, none⟩ = some (.string (bs (nameL.getD i []))) := by
    intro i hi
    rw [hown.cellAt i (by omega)]
    have : nameL.length = 13 := rfl
    simp [List.getD, this, hi]
  have hr := hown.lt r rfl
  have hm := Below.mod hb
  replace hown := hide hown
  replace hcell := hide hcell
  replace hm := hide hm
  replace hb := hide hb
  clear hne
  go_wp2
  go_ret
  exact ⟨r, cap, rfl, hcell.out, hr.1, hr.2, hm.out⟩

end Go.Proofs.YtkajhggdgpbfeaaGreatDoor

namespace Go.Proofs.YtkajhggdgpbfeaaGreatDoor
open Go.RowKit

/-- What Text lists of the first k reasons. -/
def co_ents (c : List Int) (k : Nat) : List (List UInt8) :=
  (List.range k).flatMap fun i => if 0 < c.getD i 0 then [nameL.getD i [] ++ [32] ++ Lib.itoa (c.getD i 0)] else []

theorem co_ents_succ (c : List Int) (k : Nat) : co_ents c (k + 1) = co_ents c k ++ if 0 < c.getD k 0 then [nameL.getD k [] ++ [32] ++ Lib.itoa (c.getD k 0)] else [] := by
  simp [co_ents, List.range_succ]
theorem co_ents_len (c : List Int) (k : Nat) : (co_ents c k).length ≤ k := by
  induction k with
  | zero => simp [co_ents]
  | succ k ih => rw [co_ents_succ]; split <;> simp <;> omega

theorem nameL_len (k : Nat) : (nameL.getD k []).length ≤ 8 := by
  by_cases hk : k < 13
  · match k, hk with
    | 0, _ | 1, _ | 2, _ | 3, _ | 4, _ | 5, _ | 6, _ | 7, _ | 8, _ | 9, _ | 10, _ | 11, _ | 12, _ => decide
  · have : nameL.length = 13 := rfl
    simp [List.getD, List.getElem?_eq_none (show nameL.length ≤ k by omega)]

theorem co_ents_each (c : List Int) (hc : ∀ k, 0 ≤ c.getD k 0 ∧ c.getD k 0 ≤ 9007199254740992) (k : Nat) : ∀ s ∈ co_ents c k, s.length ≤ 30 := by
  intro s hs
  simp only [co_ents, List.mem_flatMap, List.mem_range] at hs
  obtain ⟨i, _, hs⟩ := hs
  split at hs
  · simp only [List.mem_singleton] at hs
    subst hs
    have h1 := nameL_len i
    have h2 := Lib.itoa_length_le (c.getD i 0) (by have := hc i; omega) (by have := hc i; omega)
    simp only [List.length_append, List.length_cons, List.length_nil]
    omega
  · cases hs

theorem co_lens_le (xs : List (List UInt8)) (n : Nat) (h : ∀ s ∈ xs, s.length ≤ n) : Lib.lens xs ≤ xs.length * n := by
  induction xs with
  | nil => simp [Lib.lens]
  | cons x xs ih =>
    have h1 := h x (by simp)
    have h2 := ih fun s hs => h s (by simp [hs])
    simp only [Lib.lens, List.map_cons, List.sum_cons, List.length_cons, Nat.succ_mul] at *
    omega

theorem co_join_le (xs : List (List UInt8)) (sep : List UInt8) (n : Nat) (h : ∀ s ∈ xs, s.length ≤ n) : (Lib.join xs sep).length ≤ xs.length * (n + sep.length) := by
  cases xs with
  | nil => simp [Lib.join_nil]
  | cons x r =>
    rw [Lib.join_length]
    have := co_lens_le (x :: r) n h
    simp only [List.length_cons, Nat.mul_add, Nat.succ_mul, Nat.mul_comm sep.length] at *
    omega

/-- strings.Join of a slice of the call's own. -/
theorem co_join_own (w : World) (base : Nat) (v : Value) (xs : List (List UInt8)) (sep : List UInt8) (h : w.ownsRow base 9 1 v xs.length (xs.map fun s => .string (bs s)))
    (hlen : (Lib.join xs sep).length ≤ 140737488355328) (hN : xs.length ≤ 140737488355328) :
    Calls Tryz.prog 99 #[v, .string (bs sep)] w fun e w' => e = .returned (.string (bs (Lib.join xs sep))) ∧ Mod NoB w w' := by
  have hmap : (xs.map bs).map (·.data.toList) = xs := by
    rw [List.map_map]
    exact List.map_id'' (fun _ => rfl) xs
  rcases h.2 with ⟨rfl, h0⟩ | ⟨g, cap, cur, rfl, hb, hg, hcap, hmx, hsz, htk⟩
  · obtain rfl : xs = [] := List.length_eq_zero_iff.1 h0
    refine (Tryz.strings_Join_none none 0 (bs sep) w).mono ?_
    rintro e w' ⟨rfl, rfl⟩
    exact ⟨rfl, Mod.refl _ _⟩
  · have hl : (xs.map bs).length = xs.length := by simp
    have := Tryz.strings_Join g 0 cap (xs.map bs) (bs sep) w (fun j x hx => by
        rw [Nat.zero_add, h.cellAt j (by
          rcases Nat.lt_or_ge j xs.length with hj | hj
          · omega
          · rw [List.getElem?_eq_none (by simpa using hj)] at hx; cases hx)]
        rw [List.getElem?_map] at hx ⊢
        cases hj : xs[j]? with
        | none => simp [hj] at hx
        | some y => simp [hj] at hx; simp [← hx])
      (lt_of_block hg) (by rw [hl]; exact hN) (by rw [hl]; exact hcap) (by rw [hmap]; exact hlen)
    rw [hl, hmap] at this
    refine this.mono ?_
    rintro e w' ⟨rfl, hbl⟩
    exact ⟨rfl, Below.mod hbl⟩

theorem co_infoStr : (Tryz.prog.info? 9).map (fun i => (i.zero, i.size, i.bytes)) = some (some (.string ⟨#[]⟩), 1, 16) := by kernel_rfl

set_option maxHeartbeats 2000000 in
set_option maxRecDepth 100000 in
theorem co_text_of (p : Value) (c : List Int) (hl : c.length = 13) (w : World) (hp : Calls Tryz.prog 96 #[p] w fun e w'' => e = .returned (ints c) ∧ Mod NoB w w'') (hc : ∀ k, 0 ≤ c.getD k 0 ∧ c.getD k 0 ≤ 9007199254740992) (hL : Laid w) :
    Calls Tryz.prog 56 #[p] w fun e w' => e = .returned (.string (bs (Lib.join (co_ents c 13) [44, 32]))) ∧ Mod NoB w w' := by
  obtain ⟨i0, hi, hz0, hz1, hz2⟩ := info_parts co_infoStr
  replace hp := hide hp
  replace hL := hide hL
  replace hi := hide hi
  replace hz0 := hide hz0
  replace hz1 := hide hz1
  replace hz2 := hide hz2
  go_enter Tryz.func56, Tryz.ntmps56
  go_wp2_with fail
  refine hp.out.mono ?_
  rintro e w1 ⟨rfl, hm⟩
  replace hm := hide hm
  go_wp2_with fail
  go_loopw [3, 8] (fun v i wr => ∃ k : Nat, k ≤ 13 ∧ i = .int .i64 k ∧ wr.ownsRow w.heap.size 9 1 v (co_ents c k).length ((co_ents c k).map fun s => .string (bs s)) ∧ Mod NoB w wr) (fun _ i _ => 13 - (intOf i).toNat)
  case atStart => exact ⟨0, by omega, rfl, World.ownsRow_nil _ _ _ _, hm.out⟩
  case round =>
    obtain ⟨k, hk, rfl, hown, hmr⟩ := hrel
    have hLr := hide (hL.out.mod hmr)
    have hsz := hmr.size
    replace hmr := hide hmr
    replace hown := hide hown
    by_cases hlt : k < 13
    · have hix := run_index_ints 188 Tryz.underlying188 c hl k hlt
      obtain ⟨x1, x2⟩ := hc k
      have hnx := hide (co_ents_succ c k)
      have hel := co_ents_len c k
      replace hl := hide hl
      generalize c.getD k 0 = x at hix x1 x2 hnx
      have hil := Lib.itoa_length_le x (by omega) (by omega)
      have hnl := nameL_len k
      have hcell : ∀ w', NamesPost w' = fun e w'' => ∃ r cap, e = .returned (.slice (some ⟨r, 0, none⟩) 13 cap) ∧ (∀ i, i < 13 → w''.cell? ⟨r, i, none⟩ = some (.string (bs (nameL.getD i [])))) ∧ w'.heap.size ≤ r ∧ r < w''.heap.size ∧ Mod NoB w' w'' := fun _ => rfl
      have hnk := hide (rfl : nameL.getD k [] = nameL.getD k [])
      obtain ⟨nm, hnm⟩ : ∃ nm, nameL.getD k [] = nm := ⟨_, rfl⟩
      rw [hnm] at hnx hnl
      replace hnm := hide hnm
      clear hcell hnk
      have q1 : (9223372036854775807 < nm.length + 1) = False := by simp; omega
      have q2 : (9223372036854775807 < nm.length + 1 + (Lib.itoa x).length) = False := by simp; omega
      by_cases h0 : x = 0
      · subst h0
        go_wp2
        go_roundw
        case rel => exact ⟨k + 1, by omega, by go_num, by rw [hnx.out]; simpa using hown.out, hmr.out⟩
        case measure => simp [intOf]; omega
      · have hpos : 0 < x := by omega
        clear h0
        go_wp2_with fail
        go_region_law (first
          | (go_simp; go_at_call 97; refine (co_names_any _ (hLr.out.mod (Mod.refl _ _).drew)).mono ?_; rintro e w5 ⟨r, cap, rfl, hcs, hr1, hr2, hm5⟩; have hcA := hcs k hlt; rw [hnm.out] at hcA; have hcB : ∀ w'', Mod NoB w5 w'' → w''.cell? ⟨r, k, none⟩ = some (.string (bs nm)) := (fun w'' hmm => hmm.cellAt id hcA); replace hcs := hide hcs)
          | (go_simp; go_at_call 98; refine (co_itoa_any x ⟨by omega, by omega⟩ _ (hLr.out.mod ((Mod.refl _ _).drew.trans hm5))).mono ?_; rintro e w6 ⟨rfl, hm6⟩)
          | (refine step_append_own rfl (.tmp 14) (.tmp 23) 153 rfl w.heap.size 9 i0 (.string ⟨#[]⟩) 1 16 Tryz.underlying153 hi.out hz0.out hz1.out hz2.out rfl (by decide) u3 (co_ents c k).length ((co_ents c k).map fun s => .string (bs s)) rfl ?o ⟨_, 0, none⟩ 1 1 [.string (bs nm ++ ⟨#[32]⟩ ++ bs (Lib.itoa x))] rfl rfl ?n ?one ?m ?mb ?base ?_; (case o => exact (ownsRow_mod hown.out (((Mod.refl _ _).drew.trans hm5).trans hm6) (fun _ f => f.elim)).alloc _); (case n => exact cell_one_new _ _ _); (case one => (intro u hu; simp at hu; subst hu; rfl)); (case m => (unfold maxLen; omega)); (case mb => omega); (case base => (have z1 := hm5.size; have z2 := hm6.size; simp at z1 ⊢; omega)); intro v' w7 hown' hgrow _))
        all_goals
          have hown2 : Hid (w7.ownsRow w.heap.size 9 1 v' (co_ents c (k + 1)).length ((co_ents c (k + 1)).map fun s => .string (bs s))) := hide (by
            rw [hnx.out, if_pos hpos, List.length_append, List.map_append]
            have e1 : bs nm ++ ⟨#[32]⟩ ++ bs (Lib.itoa x) = bs (nm ++ [32] ++ Lib.itoa x) := (congrArg (· ++ bs (Lib.itoa x)) (co_bytes_append nm [32])).trans (co_bytes_append (nm ++ [32]) (Lib.itoa x))
            rw [e1] at hown'
            exact hown')
          have hm7 : Hid (Mod NoB w w7) := hide (((((hmr.out.drew.trans hm5).trans hm6).alloc _).grown hgrow (fun q hq => (hown.out.lt q hq).1)))
          clear hown' hgrow hm5 hm6 hcB hcA
          go_wp2
          go_roundw
          case rel => exact ⟨k + 1, by omega, by go_num, hown2.out, hm7.out⟩
          case measure => simp [intOf]; omega
    · obtain rfl : k = 13 := by omega
      have hel := co_ents_len c 13
      have hjl := co_join_le (co_ents c 13) [44, 32] 30 (co_ents_each c hc 13)
      replace hc := hide hc
      replace hjl : (Lib.join (co_ents c 13) [44, 32]).length ≤ 13 * 32 := Nat.le_trans hjl (Nat.mul_le_mul hel (Nat.le_refl 32))
      go_wp2_with fail
      refine (co_join_own _ _ _ (co_ents c 13) [44, 32] hown.out (by omega) (by omega)).mono ?_
      rintro e w8 ⟨rfl, hm8⟩
      replace hm8 := hide hm8
      go_wp2
      go_ret
      exact ⟨rfl, hmr.out.trans hm8.out⟩
end Go.Proofs.YtkajhggdgpbfeaaGreatDoor

namespace Go.Proofs.YtkajhggdgpbfeaaGreatDoor
set_option linter.unusedSimpArgs false
open Go.RowKit

/-- What the laws of chapter 17 take of the library's and the program's variables. -/
structure LaidD (w : World) : Prop where
  n : LaidN w
  c : Laid w
theorem LaidD.mod {w w' : World} (h : LaidD w) (hm : Mod NoB w w') : LaidD w' := ⟨h.n.mod hm, h.c.mod hm⟩
theorem laidD_of {W : World} {l : List (String × DataW Unit)} (hm : ("strings.asciiSpace", Rows.laid_strings_asciiSpace) ∈ l) (hp : ("internal/strconv.uint64pow10", Rows.laid_internal_strconv_uint64pow10) ∈ l) (he : ("strconv.ErrRange", Rows.laid_strconv_ErrRange) ∈ l)
    (hn : ("chronobate/sane.names", Rows.laid_chronobate_sane_names) ∈ l) (h : laidMet Tryz.prog l W) : LaidD W := by
  have hN := laidN_of hm hp he h
  exact ⟨hN, hN.pow, laid_strs co_gNames (t := 263) (e := 9) (n := 13) (by kernel_rfl) Tryz.underlying263 Tryz.underlying9 (by kernel_rfl) (by kernel_rfl) h (by rw [show strsData nameL = Rows.laid_chronobate_sane_names by kernel_rfl]; exact hn)⟩
/-- The text of counts. -/
def countsT (n : List Int) : List UInt8 := Lib.join (co_ents n 13) [44, 32]
theorem DaemonS.Ok.cnts {d : DaemonS} (hd : d.Ok) {N : Int} (hc : d.Cnt N) (hN : N ≤ 9007199254740992) : ∀ k, 0 ≤ d.n.getD k 0 ∧ d.n.getD k 0 ≤ 9007199254740992 := fun k => ⟨hd.nn k, Int.le_trans (hc k) hN⟩
theorem dcounts_any (P : DPl) (d : DaemonS) (hn : d.n.length = 13) (hc : ∀ k, 0 ≤ d.n.getD k 0 ∧ d.n.getD k 0 ≤ 9007199254740992) (w : World) (hd : DO w P d) (hL : Laid w) :
    Calls Tryz.prog 25 #[at0 P.b] w fun e w' => e = .returned (.string (bs (countsT d.n))) ∧ Mod NoB w w' := by
  have k10 := cell_of_block hd.blk 10 rfl
  have h1 := hide (co_text_of (at0 P.bc) d.n hn w (co_all_any P.bc d.n w hd.cnt) hc hL)
  clear hd hL
  go_enter Tryz.func25, Tryz.ntmps25
  go_wp2_with fail
  refine h1.out.mono ?_
  rintro e w' ⟨rfl, hm⟩
  replace hm := hide hm
  go_wp2
  go_ret
  exact ⟨rfl, hm.out⟩
end Go.Proofs.YtkajhggdgpbfeaaGreatDoor

