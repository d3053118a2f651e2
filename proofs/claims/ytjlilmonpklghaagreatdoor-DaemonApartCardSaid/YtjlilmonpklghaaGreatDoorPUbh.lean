/- Daemons that are alike but for counts: plain. Two daemons whose clocks are set apart by whole seconds: plain. Decimals: chronobateref16.Decimal; strconv.Itoa with the frame of this seat. -/
import Derived.Test.YtjlilmonpklghaaGreatDoorPUbg
import Derived.Test.YtjlilmonpklghaaGreatDoorPUav
import Derived.Test.YtjlilmonpklghaaGreatDoorPUah
import Derived.Test.YtjlilmonpklghaaGreatDoorPUab
import Derived.Laws.BytesArg
namespace Go.Proofs.YtjlilmonpklghaaGreatDoor
set_option linter.unusedSimpArgs false
open Go.RowKit

/-- Alike, but for counts and when they last did something. -/
def Like (d m : DaemonS) : Prop := m = { d with n := m.n, h := m.h }
theorem Like.refl (d : DaemonS) : Like d d := rfl
theorem Like.symm {d m : DaemonS} (h : Like d m) : Like m d := by
  unfold Like at h ⊢
  rw [h]
theorem Like.trans {d m k : DaemonS} (h : Like d m) (h2 : Like m k) : Like d k := by
  unfold Like at h h2 ⊢
  rw [h2, h]
theorem Like.parts {d m : DaemonS} (h : Like d m) : m.c = d.c ∧ m.k = d.k ∧ m.ps = d.ps ∧ m.ss = d.ss ∧ m.draw = d.draw ∧ m.theta = d.theta ∧ m.votes = d.votes ∧ m.chosen = d.chosen := by
  unfold Like at h
  rw [h]
  exact ⟨rfl, rfl, rfl, rfl, rfl, rfl, rfl, rfl⟩
theorem Like.of {d m : DaemonS} (h : m.c = d.c ∧ m.k = d.k ∧ m.ps = d.ps ∧ m.ss = d.ss ∧ m.draw = d.draw ∧ m.theta = d.theta ∧ m.votes = d.votes ∧ m.chosen = d.chosen) : Like d m := by
  obtain ⟨a, b, c, e, f, g, i, j⟩ := h
  cases m
  cases d
  simp only at a b c e f g i j
  subst a b c e f g i j
  rfl
theorem take_with (d : DaemonS) (n : List Int) (h0 h : Int) : takeS { d with n := n, h := h0 } h = { takeS d h with n := n, h := h0 } := by
  unfold takeS
  simp only []
  split <;> rfl
theorem hear_with (d : DaemonS) (n : List Int) (h0 h a : Int) (l : List Nat) : hearS { d with n := n, h := h0 } h a l = ({ (hearS d h a l).1 with n := n, h := h0 }, (hearS d h a l).2) := by
  unfold hearS
  simp only []
  split
  · rfl
  split
  · rfl
  split
  · rename_i hx
    simp only [hx]
  · rename_i x hx
    simp only [hx]
    have := take_with { d with ps := d.ps.set (placeOf a d.c.srv) ((d.ps.getD (placeOf a d.c.srv) zeroPeer).answer h (d.k.at h).c (d.k.at h).all (lookR l (d.ps.getD (placeOf a d.c.srv) zeroPeer).cookie) (pktOf l).recv (pktOf l).xmit).1, ss := d.ss.set (placeOf a d.c.srv) (storeAdd (d.ss.getD (placeOf a d.c.srv) []) x) } n h0 h
    rw [← this]
/-- Alike daemons do the same. -/
theorem Like.do {d m : DaemonS} (h : Like d m) {e : EvS} (he : errS d e = errS m e) : Like (doS d e).1 (doS m e).1 ∧ (doS d e).2 = (doS m e).2 := by
  unfold Like at h
  generalize m.n = n at h
  generalize m.h = h0 at h
  subst h
  unfold doS
  rw [← he]
  split
  · exact ⟨rfl, rfl⟩
  · split
    · exact ⟨rfl, rfl⟩
    · have h1 := hear_with d d.n e.h e.h e.addr e.data
      have h2 := hear_with d n e.h e.h e.addr e.data
      have e1 : ({ d with n := d.n, h := e.h } : DaemonS) = { d with h := e.h } := rfl
      rw [e1] at h1
      unfold datagramS
      simp only []
      rw [h1, h2]
      exact ⟨rfl, rfl⟩
/-- A datagram that isn't taken, nor a kiss, leaves one alike. -/
theorem hear_deaf (d : DaemonS) (h a : Int) (l : List Nat) (hw : (hearS d h a l).2 ≠ 0 ∧ (hearS d h a l).2 ≠ 8) : (hearS d h a l).1 = d := by
  unfold hearS at hw ⊢
  split
  · rfl
  split
  · rfl
  rename_i h1 h2
  rw [if_neg h1, if_neg h2] at hw
  simp only [] at hw ⊢
  have key : ∀ p : PeerS, ∀ c z w rv xm, (p.answer h c z w rv xm).2.2 ≠ 0 → (p.answer h c z w rv xm).2.2 ≠ 8 → (p.answer h c z w rv xm).1 = p := by
    intro p c z w rv xm g1 g2
    unfold PeerS.answer at g1 g2 ⊢
    (repeat' split) <;> simp_all
  split
  · rename_i hx
    rw [hx] at hw
    simp only [] at hw
    rw [key _ _ _ _ _ _ hw.1 hw.2]
    have : d.ps.set (placeOf a d.c.srv) (d.ps.getD (placeOf a d.c.srv) zeroPeer) = d.ps := by
      apply List.ext_getElem?
      intro i
      rw [List.getElem?_set]
      split
      · rename_i hi
        subst hi
        split
        · rename_i hlt
          simp [List.getD, hlt]
        · rename_i hlt
          rw [List.getElem?_eq_none (by omega)]
      · rfl
    rw [this]
  · rename_i x hx
    rw [hx] at hw
    simp only [] at hw
    have := (answer_none (d.ps.getD (placeOf a d.c.srv) zeroPeer) h (d.k.at h).c (d.k.at h).all (lookR l (d.ps.getD (placeOf a d.c.srv) zeroPeer).cookie) (pktOf l).recv (pktOf l).xmit).2 hw.1
    rw [hx] at this
    cases this
theorem do_deaf {d : DaemonS} {e : EvS} (he : errS d e = 0) (hk : e.kind ≠ 0) (hw : (doS d e).2.reason ≠ 0 ∧ (doS d e).2.reason ≠ 8) : Like d (doS d e).1 := by
  have h1 := hear_with d d.n e.h e.h e.addr e.data
  have e1 : ({ d with n := d.n, h := e.h } : DaemonS) = { d with h := e.h } := rfl
  rw [e1] at h1
  unfold doS at hw ⊢
  rw [if_neg (by simp [he]), if_neg hk] at hw ⊢
  unfold datagramS at hw ⊢
  simp only [] at hw ⊢
  rw [h1] at hw ⊢
  simp only [] at hw ⊢
  rw [hear_deaf d e.h e.addr e.data hw]
  rfl
theorem late_state (z : PeerS) (t : Int) : z.late t = z ∨ (z.late t).state = 0 := by
  unfold PeerS.late
  split
  · exact Or.inr rfl
  · exact Or.inl rfl
/-- Cookies that are out. -/
def DaemonS.Out (d : DaemonS) (asked : Int → Nat) : Prop := ∀ (i : Nat) p a, d.ps[i]? = some p → d.c.srv[i]? = some a → (p.state = 0 ∨ p.state = 1 ∨ p.state = 2) ∧ (p.state = 1 → p.cookie = asked a)
theorem newS_outs (c : Cfg) (h clock : Int) : (newS c h clock).Out (fun _ => 0) := by
  intro i p a hp ha
  have : p = newPeer c h := by
    have := List.mem_of_getElem? hp
    obtain ⟨_, _, rfl⟩ := List.mem_map.1 this
    rfl
  subst this
  exact ⟨Or.inl rfl, fun e => by have e : (0 : Int) = 1 := e; omega⟩
/-- Whom a draw was sent to. -/
def askedBy (draw : Nat) (L : List (Int × List Nat)) (asked : Int → Nat) : Int → Nat := fun a => if a ∈ L.map (·.1) then draw else asked a
theorem Like.out {d m : DaemonS} (h : Like d m) {asked : Int → Nat} (ho : d.Out asked) : m.Out asked := by
  obtain ⟨a, _, c, _⟩ := h.parts
  intro i p x hp hx
  rw [c] at hp
  rw [a] at hx
  exact ho i p x hp hx
/-- Cookies that are out, behind a datagram. -/
theorem hear_outs {d : DaemonS} {asked : Int → Nat} (ho : d.Out asked) (h a : Int) (l : List Nat) : (hearS d h a l).1.Out asked := by
  have key : ∀ (p : PeerS) c z w rv xm x, ((p.state = 0 ∨ p.state = 1 ∨ p.state = 2) ∧ (p.state = 1 → p.cookie = asked x)) → (((p.answer h c z w rv xm).1.state = 0 ∨ (p.answer h c z w rv xm).1.state = 1 ∨ (p.answer h c z w rv xm).1.state = 2) ∧ ((p.answer h c z w rv xm).1.state = 1 → (p.answer h c z w rv xm).1.cookie = asked x)) := by
    intro p c z w rv xm x hp
    unfold PeerS.answer PeerS.rest
    (repeat' split) <;> simp_all
  have hset : ∀ {z : PeerS} (j i : Nat) p x, d.c.srv[i]? = some x → (∀ q b, d.ps[j]? = some q → d.c.srv[j]? = some b → ((z.state = 0 ∨ z.state = 1 ∨ z.state = 2) ∧ (z.state = 1 → z.cookie = asked b))) → (d.ps.set j z)[i]? = some p → ((p.state = 0 ∨ p.state = 1 ∨ p.state = 2) ∧ (p.state = 1 → p.cookie = asked x)) := by
    intro z j i p x ha hz hp
    rw [List.getElem?_set] at hp
    split at hp
    · rename_i hi
      subst hi
      split at hp
      · rename_i hlt
        cases hp
        exact hz _ _ (List.getElem?_eq_getElem hlt) ha
      · cases hp
    · exact ho i p x hp ha
  have hans : ∀ q b, d.ps[placeOf a d.c.srv]? = some q → d.c.srv[placeOf a d.c.srv]? = some b → _ := fun q b hq hb => key (d.ps.getD (placeOf a d.c.srv) zeroPeer) (d.k.at h).c (d.k.at h).all (lookR l (d.ps.getD (placeOf a d.c.srv) zeroPeer).cookie) (pktOf l).recv (pktOf l).xmit b (by rw [show d.ps.getD (placeOf a d.c.srv) zeroPeer = q by simp [List.getD, hq]]; exact ho _ q b hq hb)
  rcases hear_cases d h a l with e | e | ⟨hne, ⟨_, e⟩ | ⟨y, _, e⟩⟩
  · rw [e]; exact ho
  · rw [e]; exact ho
  · rw [e]
    intro i p x hp hx
    exact hset _ i p x hx hans hp
  · rw [e]
    intro i p x hp hx
    obtain ⟨t1, t2, t3, t4, t5, t6⟩ := take_rest { d with ps := d.ps.set (placeOf a d.c.srv) (ansOf d h a l).1, ss := d.ss.set (placeOf a d.c.srv) (storeAdd (d.ss.getD (placeOf a d.c.srv) []) y) } h
    rw [t5] at hp
    rw [t2] at hx
    exact hset _ i p x hx hans hp
theorem do_outs {d : DaemonS} (hd : d.Ok) {e : EvS} {asked : Int → Nat} (ho : d.Out asked) : (doS d e).1.Out (askedBy (doS d e).1.draw (doS d e).2.sends asked) := by
  have hnd : d.c.srv.Nodup := (fine_srv (check_fine hd.c)).1
  by_cases he : errS d e = 0
  · unfold doS
    rw [if_neg (by simp [he])]
    by_cases h0 : e.kind = 0
    · rw [if_pos h0]
      simp only []
      intro i p a hp ha
      have hp : (askPs e.h (d.k.at e.h).c (drawOf d e.draw) (d.ps.map (·.late e.h)))[i]? = some p := hp
      have ha : d.c.srv[i]? = some a := ha
      show (p.state = 0 ∨ p.state = 1 ∨ p.state = 2) ∧ (p.state = 1 → p.cookie = askedBy (drawOf d e.draw) (askSends e.h (d.k.at e.h).c (drawOf d e.draw) (d.ps.map (·.late e.h)) d.c.srv) asked a)
      obtain ⟨q, hq, rfl⟩ := askPs_get hp
      have hkq : (q.state = 0 ∨ q.state = 1 ∨ q.state = 2) ∧ (q.state = 1 → q.cookie = asked a) := by
        rw [List.getElem?_map] at hq
        cases hz : d.ps[i]? with
        | none => rw [hz] at hq; cases hq
        | some z =>
          rw [hz] at hq
          cases hq
          have := ho i z a hz ha
          rcases late_state z e.h with e1 | e1
          · show ((z.late e.h).state = 0 ∨ (z.late e.h).state = 1 ∨ (z.late e.h).state = 2) ∧ ((z.late e.h).state = 1 → (z.late e.h).cookie = asked a)
            rw [e1]
            exact this
          · show ((z.late e.h).state = 0 ∨ (z.late e.h).state = 1 ∨ (z.late e.h).state = 2) ∧ ((z.late e.h).state = 1 → (z.late e.h).cookie = asked a)
            exact ⟨Or.inl e1, fun e2 => by omega⟩
      unfold askedBy
      cases hask : q.ask e.h (d.k.at e.h).c (drawOf d e.draw) with
      | some r =>
        rw [if_pos (askSends_has hq ha hask)]
        unfold PeerS.ask at hask
        split at hask
        · cases hask
          exact ⟨Or.inr (Or.inl rfl), fun _ => rfl⟩
        · cases hask
      | none =>
        rw [if_neg]
        · exact hkq
        · intro hm
          obtain ⟨x, hx, hxa⟩ := List.mem_map.1 hm
          obtain ⟨j, p2, q2, g1, g2, g3, _⟩ := askSends_mem hx
          rw [hxa] at g2
          have := nodup_get hnd ha g2
          subst this
          rw [hq] at g1
          cases g1
          rw [hask] at g3
          cases g3
    · rw [if_neg h0]
      simp only []
      have hs : ∀ dr, askedBy dr [] asked = asked := by intro dr; funext a; simp [askedBy]
      rw [hs]
      exact fun i p a hp ha => hear_outs (d := { d with h := e.h }) ho e.h e.addr e.data i p a hp ha
  · rw [doS_err he]
    have hs : askedBy d.draw out0.sends asked = asked := by funext a; simp [askedBy, out0]
    rw [hs]
    exact ho
/-- What isn't the answer that is asked for isn't taken, nor a kiss. -/
theorem out_deaf {d : DaemonS} (hd : d.Ok) {asked : Int → Nat} (ho : d.Out asked) {h a : Int} {b : List Nat} (hb : lookR b (asked a) ≠ 0 ∧ lookR b (asked a) ≠ 8) : (hearS d h a b).2 ≠ 0 ∧ (hearS d h a b).2 ≠ 8 := by
  unfold hearS
  split
  · exact ⟨by simp, by simp⟩
  split
  · exact ⟨by simp, by simp⟩
  rename_i hne
  have hpl := place_get (Ne.intro (fun h => hne h) : placeOf a d.c.srv ≠ d.c.srv.length)
  have hlt : placeOf a d.c.srv < d.ps.length := by rw [hd.pn]; exact (List.getElem?_eq_some_iff.1 hpl).1
  have hp := ho _ _ a (List.getElem?_eq_getElem hlt) hpl
  have hg : d.ps.getD (placeOf a d.c.srv) zeroPeer = d.ps[placeOf a d.c.srv] := by simp [List.getD, hlt]
  rw [← hg] at hp
  simp only []
  generalize d.ps.getD (placeOf a d.c.srv) zeroPeer = p at *
  have hw : (p.answer h (d.k.at h).c (d.k.at h).all (lookR b p.cookie) (pktOf b).recv (pktOf b).xmit).2.2 ≠ 0 ∧ (p.answer h (d.k.at h).c (d.k.at h).all (lookR b p.cookie) (pktOf b).recv (pktOf b).xmit).2.2 ≠ 8 := by
    unfold PeerS.answer
    split
    · exact ⟨by simp, by simp⟩
    split
    · exact ⟨by simp, by simp⟩
    · rename_i h2 h0
      have h1 : p.state = 1 := by have := hp.1; omega
      rw [hp.2 h1]
      rw [if_neg hb.2, if_pos hb.1]
      exact hb
  split
  · exact hw
  · exact hw
end Go.Proofs.YtjlilmonpklghaaGreatDoor

namespace Go.Proofs.YtjlilmonpklghaaGreatDoor
set_option linter.unusedSimpArgs false
open Go.RowKit

/-- A stamp, so many seconds on. -/
def shiftN (s : Int) (x : Nat) : Nat := (((x : Int) + s * 4294967296) % 18446744073709551616).toNat
theorem shiftN_lt (s : Int) (x : Nat) : shiftN s x < 18446744073709551616 := by unfold shiftN; omega
theorem fromNs_shift (s a : Int) : fromNs (a + s * 1000000000) = shiftN s (fromNs a) := by
  unfold fromNs shiftN
  have h1 : (a + s * 1000000000) / 1000000000 = a / 1000000000 + s := by omega
  have h2 : (a + s * 1000000000) % 1000000000 = a % 1000000000 := by omega
  rw [h1, h2]
  generalize a / 1000000000 = q
  have hr : (a % 1000000000).toNat < 1000000000 := by omega
  generalize (a % 1000000000).toNat = r at *
  have hf : r * 4294967296 / 1000000000 < 4294967296 := by omega
  generalize r * 4294967296 / 1000000000 = f at *
  omega
theorem diffS_shift (s : Int) (a b : Nat) : diffS (shiftN s a) (shiftN s b) = diffS a b := by
  have h : IntKind.i64.wrap (((shiftN s a : Nat) : Int) - (shiftN s b : Nat)) = IntKind.i64.wrap ((a : Int) - b) := by
    rw [wrap_def, wrap_def]
    have : (((shiftN s a : Nat) : Int) - (shiftN s b : Nat)) % 18446744073709551616 = ((a : Int) - b) % 18446744073709551616 := by
      unfold shiftN
      omega
    rw [this]
  unfold diffS
  rw [h]
theorem makeS_shift (s c0 c1 : Int) (r x : Nat) : makeS (c0 + s * 1000000000) (c1 + s * 1000000000) (shiftN s r) (shiftN s x) = makeS c0 c1 r x := by
  unfold makeS
  rw [fromNs_shift, fromNs_shift, diffS_shift, diffS_shift, diffS_shift]
  have : satSub (c1 + s * 1000000000) (c0 + s * 1000000000) = satSub c1 c0 := by
    unfold satSub
    congr 1
    omega
  rw [this]
theorem pkt_good {a b c : Nat} (ha : a < 18446744073709551616) (hb : b < 18446744073709551616) (hc : c < 18446744073709551616) :
    pktOf (goodP a b c).bytes = goodP a b c := by
  have w1 : wordAt (goodP a b c).bytes 24 8 = a := by
    unfold wordAt
    rw [show (((goodP a b c).bytes.drop 24).take 8) = be 8 a by rfl]
    exact word_id ha
  have w2 : wordAt (goodP a b c).bytes 32 8 = b := by
    unfold wordAt
    rw [show (((goodP a b c).bytes.drop 32).take 8) = be 8 b by rfl]
    exact word_id hb
  have w3 : wordAt (goodP a b c).bytes 40 8 = c := by
    unfold wordAt
    rw [show (((goodP a b c).bytes.drop 40).take 8) = be 8 c by rfl]
    exact word_id hc
  have g0 : (goodP a b c).bytes.getD 0 0 = 36 := rfl
  have g1 : (goodP a b c).bytes.getD 1 0 = 1 := rfl
  have g2 : (goodP a b c).bytes.getD 2 0 = 0 := rfl
  have g3 : (goodP a b c).bytes.getD 3 0 = 0 := rfl
  have g4 : wordAt (goodP a b c).bytes 4 4 = 0 := by
    unfold wordAt
    rw [show (((goodP a b c).bytes.drop 4).take 4) = be 4 0 by rfl]
    decide
  have g5 : wordAt (goodP a b c).bytes 8 4 = 0 := by
    unfold wordAt
    rw [show (((goodP a b c).bytes.drop 8).take 4) = be 4 0 by rfl]
    decide
  have g6 : wordAt (goodP a b c).bytes 12 4 = 0 := by
    unfold wordAt
    rw [show (((goodP a b c).bytes.drop 12).take 4) = be 4 0 by rfl]
    decide
  have g7 : wordAt (goodP a b c).bytes 16 8 = 0 := by
    unfold wordAt
    rw [show (((goodP a b c).bytes.drop 16).take 8) = be 8 0 by rfl]
    decide
  unfold pktOf
  rw [w1, w2, w3, g0, g1, g2, g3, g4, g5, g6, g7]
  simp [goodP, pkt0, i8of]
/-- Peers that were asked when the clock was apart. -/
def PeerS.Set (s : Int) (p q : PeerS) : Prop := ∃ c, q = { p with clock := c } ∧ (p.state ≠ 0 → p.state ≠ 2 → c = p.clock + s * 1000000000)
/-- Two daemons whose clocks are apart. -/
structure Shifted (s : Int) (d m : DaemonS) : Prop where
  c : m.c = d.c
  k : m.k = { d.k with c := d.k.c + s * 1000000000 }
  ps : ∀ i : Nat, (d.ps[i]? = none ∧ m.ps[i]? = none) ∨ ∃ p q, d.ps[i]? = some p ∧ m.ps[i]? = some q ∧ p.Set s q
  ss : m.ss = d.ss
  draw : m.draw = d.draw
  h : m.h = d.h
theorem PeerS.Set.next {s : Int} {p q : PeerS} (h : p.Set s q) : q.next = p.next := by
  obtain ⟨c, rfl, _⟩ := h
  rfl
theorem PeerS.Set.late {s : Int} {p q : PeerS} (h : p.Set s q) (t : Int) : (p.late t).Set s (q.late t) := by
  obtain ⟨c, rfl, h1⟩ := h
  unfold PeerS.late
  have : ({ p with clock := c } : PeerS).isLate t = p.isLate t := rfl
  rw [this]
  split
  · exact ⟨c, rfl, fun e => absurd rfl e⟩
  · exact ⟨c, rfl, h1⟩
theorem PeerS.Set.ask {s : Int} {p q : PeerS} (h : p.Set s q) (t c : Int) (draw : Nat) :
    (p.ask t c draw = none ∧ q.ask t (c + s * 1000000000) draw = none) ∨ ∃ p' q', p.ask t c draw = some p' ∧ q.ask t (c + s * 1000000000) draw = some q' ∧ p'.Set s q' := by
  obtain ⟨c', rfl, h1⟩ := h
  unfold PeerS.ask
  simp only []
  split
  · exact Or.inr ⟨_, _, rfl, rfl, c + s * 1000000000, rfl, fun _ _ => rfl⟩
  · exact Or.inl ⟨rfl, rfl⟩
theorem PeerS.Set.answer {s : Int} {p q : PeerS} (h : p.Set s q) (t c z why : Int) (r x : Nat) :
    (p.answer t c z why r x).1.Set s (q.answer t (c + s * 1000000000) z why (shiftN s r) (shiftN s x)).1 ∧
      (q.answer t (c + s * 1000000000) z why (shiftN s r) (shiftN s x)).2 = (p.answer t c z why r x).2 := by
  obtain ⟨c', rfl, h1⟩ := h
  unfold PeerS.answer
  have hl : ({ p with clock := c' } : PeerS).isLate t = p.isLate t := rfl
  simp only [hl]
  split
  · exact ⟨⟨c', rfl, h1⟩, rfl⟩
  split
  · exact ⟨⟨c', rfl, h1⟩, rfl⟩
  split
  · exact ⟨⟨c', rfl, fun _ e => absurd rfl e⟩, rfl⟩
  split
  · exact ⟨⟨c', rfl, h1⟩, rfl⟩
  split
  · exact ⟨⟨c', rfl, h1⟩, rfl⟩
  · rename_i h2 h0 _ _ _
    refine ⟨⟨c', rfl, fun e => absurd rfl e⟩, ?_⟩
    rw [h1 h0 h2, makeS_shift]
theorem at_shift (k : ClockS) (b h : Int) : ({ k with c := k.c + b } : ClockS).at h = { k.at h with c := (k.at h).c + b } := by
  have h1 : stepOf { k with c := k.c + b } h = stepOf k h := rfl
  unfold ClockS.at
  rw [h1]
  simp only [ClockS.mk.injEq, true_and, and_true]
  omega
theorem adjust_shift (k : ClockS) (b h x : Int) : ({ k with c := k.c + b } : ClockS).adjust h x = { k.adjust h x with c := (k.adjust h x).c + b } := by
  unfold ClockS.adjust
  rw [at_shift]
theorem newS_apart (c : Cfg) (h s : Int) : Shifted s (newS c h 0) (newS c h (s * 1000000000)) := by
  refine ⟨rfl, ?_, fun i => ?_, rfl, rfl, rfl⟩
  · show (⟨h, s * 1000000000, 0, 0, c.s⟩ : ClockS) = ⟨h, 0 + s * 1000000000, 0, 0, c.s⟩
    rw [Int.zero_add]
  · show ((c.srv.map fun _ => newPeer c h)[i]? = none ∧ _) ∨ _
    rw [show (newS c h 0).ps = c.srv.map fun _ => newPeer c h from rfl, show (newS c h (s * 1000000000)).ps = c.srv.map fun _ => newPeer c h from rfl]
    cases hx : (c.srv.map fun _ => newPeer c h)[i]? with
    | none => exact Or.inl ⟨rfl, rfl⟩
    | some p =>
      refine Or.inr ⟨p, p, rfl, rfl, p.clock, rfl, fun e => ?_⟩
      obtain ⟨_, _, rfl⟩ := List.mem_map.1 (List.mem_of_getElem? hx)
      exact absurd rfl e
theorem Shifted.len {s : Int} {d m : DaemonS} (h : Shifted s d m) : m.ps.length = d.ps.length := by
  rcases Nat.lt_trichotomy m.ps.length d.ps.length with h1 | h1 | h1
  · rcases h.ps m.ps.length with ⟨a, _⟩ | ⟨p, q, _, b, _⟩
    · rw [List.getElem?_eq_getElem h1] at a; cases a
    · rw [List.getElem?_eq_none (Nat.le_refl _)] at b; cases b
  · exact h1
  · rcases h.ps d.ps.length with ⟨_, a⟩ | ⟨p, q, b, _⟩
    · rw [List.getElem?_eq_getElem h1] at a; cases a
    · rw [List.getElem?_eq_none (Nat.le_refl _)] at b; cases b
/-- Rows of peers that are apart, entry by entry. -/
inductive Sets (s : Int) : List PeerS → List PeerS → Prop
  | nil : Sets s [] []
  | cons {p q : PeerS} {ps qs : List PeerS} (h : p.Set s q) (hs : Sets s ps qs) : Sets s (p :: ps) (q :: qs)
theorem Sets.of {s : Int} : ∀ {ps qs : List PeerS}, (∀ i : Nat, (ps[i]? = none ∧ qs[i]? = none) ∨ ∃ p q, ps[i]? = some p ∧ qs[i]? = some q ∧ p.Set s q) → Sets s ps qs := by
  intro ps
  induction ps with
  | nil =>
    intro qs h
    cases qs with
    | nil => exact .nil
    | cons q qs => rcases h 0 with ⟨_, a⟩ | ⟨p, q, a, _⟩ <;> simp at a
  | cons p ps ih =>
    intro qs h
    cases qs with
    | nil => rcases h 0 with ⟨a, _⟩ | ⟨p, q, _, a, _⟩ <;> simp at a
    | cons q qs =>
      refine .cons ?_ (ih fun i => ?_)
      · rcases h 0 with ⟨a, _⟩ | ⟨p', q', a, b, c⟩
        · simp at a
        · simp at a b
          subst a b
          exact c
      · simpa using h (i + 1)
theorem Sets.get {s : Int} {ps qs : List PeerS} (h : Sets s ps qs) : ∀ i : Nat, (ps[i]? = none ∧ qs[i]? = none) ∨ ∃ p q, ps[i]? = some p ∧ qs[i]? = some q ∧ p.Set s q := by
  induction h with
  | nil => intro i; exact Or.inl ⟨by simp, by simp⟩
  | cons h _ ih =>
    intro i
    cases i with
    | zero => exact Or.inr ⟨_, _, rfl, rfl, h⟩
    | succ i => simpa using ih i
theorem Sets.wake {s : Int} {ps qs : List PeerS} (h : Sets s ps qs) : wakeS qs = wakeS ps := by
  cases h with
  | nil => rfl
  | cons h hs =>
    show List.foldl _ _ _ = List.foldl _ _ _
    rw [h.next]
    generalize PeerS.next _ = a
    clear h
    induction hs generalizing a with
    | nil => rfl
    | cons h _ ih =>
      rw [List.foldl_cons, List.foldl_cons, h.next]
      exact ih _
theorem Sets.late {s : Int} {ps qs : List PeerS} (h : Sets s ps qs) (t : Int) : Sets s (ps.map (·.late t)) (qs.map (·.late t)) := by
  induction h with
  | nil => exact .nil
  | cons h _ ih => exact .cons (h.late t) ih
theorem Sets.ask {s : Int} {ps qs : List PeerS} (h : Sets s ps qs) (t c : Int) (draw : Nat) : Sets s (askPs t c draw ps) (askPs t (c + s * 1000000000) draw qs) := by
  induction h with
  | nil => exact .nil
  | @cons p q ps qs h _ ih =>
    refine .cons ?_ ih
    show PeerS.Set s ((p.ask t c draw).getD p) ((q.ask t (c + s * 1000000000) draw).getD q)
    rcases h.ask t c draw with ⟨a, b⟩ | ⟨p', q', a, b, g⟩
    · rw [a, b]; exact h
    · rw [a, b]; exact g
theorem Sets.sends {s : Int} {ps qs : List PeerS} (h : Sets s ps qs) (t c : Int) (draw : Nat) : ∀ srv, askSends t (c + s * 1000000000) draw qs srv = askSends t c draw ps srv := by
  induction h with
  | nil => intro srv; rfl
  | cons h _ ih =>
    intro srv
    cases srv with
    | nil => simp [askSends]
    | cons a srv =>
      have hr := ih srv
      unfold askSends at hr ⊢
      rw [List.zip_cons_cons, List.zip_cons_cons, List.filterMap_cons, List.filterMap_cons, hr]
      rcases h.ask t c draw with ⟨x, y⟩ | ⟨p', q', x, y, g⟩
      · simp only [x, y, Option.map_none]
      · simp only [x, y, Option.map_some]
theorem Shifted.sets {s : Int} {d m : DaemonS} (h : Shifted s d m) : Sets s d.ps m.ps := .of h.ps
theorem take_apart {s : Int} {d m : DaemonS} (h : Shifted s d m) (t : Int) : Shifted s (takeS d t) (takeS m t) := by
  obtain ⟨mc, mk, mps, mss, mn, mdraw, mh, mt, mv, mch⟩ := m
  obtain ⟨c, k, ps, ss, dr, hh⟩ := h
  simp only at c k ps ss dr hh
  subst c k ss dr hh
  unfold takeS
  simp only [at_shift]
  split
  · exact ⟨rfl, by simp only [adjust_shift], ps, rfl, rfl, rfl⟩
  · exact ⟨rfl, rfl, ps, rfl, rfl, rfl⟩
theorem Sets.set {s : Int} {ps qs : List PeerS} (h : Sets s ps qs) {p q : PeerS} (hp : p.Set s q) : ∀ i, Sets s (ps.set i p) (qs.set i q) := by
  induction h with
  | nil => intro i; exact .nil
  | cons h hs ih =>
    intro i
    cases i with
    | zero => exact .cons hp hs
    | succ i => exact .cons h (ih i)
theorem Sets.getD {s : Int} {ps qs : List PeerS} (h : Sets s ps qs) (i : Nat) : (ps.getD i zeroPeer).Set s (qs.getD i zeroPeer) := by
  rw [List.getD_eq_getElem?_getD, List.getD_eq_getElem?_getD]
  rcases h.get i with ⟨a, b⟩ | ⟨p, q, a, b, g⟩
  · rw [a, b]
    exact ⟨0, rfl, fun e => absurd rfl e⟩
  · rw [a, b]
    exact g
theorem hear_apart {s : Int} {d m : DaemonS} (h : Shifted s d m) (t a : Int) {l l' : List Nat} (h1 : l'.length = l.length) (h2 : ∀ k, lookR l' k = lookR l k) (h3 : (pktOf l').recv = shiftN s (pktOf l).recv) (h4 : (pktOf l').xmit = shiftN s (pktOf l).xmit) :
    Shifted s (hearS d t a l).1 (hearS m t a l').1 ∧ (hearS m t a l').2 = (hearS d t a l).2 := by
  have hs := h.sets
  have hh := h
  obtain ⟨mc, mk, mps, mss, mn, mdraw, mh, mt, mv, mch⟩ := m
  obtain ⟨c, k, ps, ss, dr, hhh⟩ := h
  simp only at c k ps ss dr hhh hs
  subst c k ss dr hhh
  have hg := hs.getD (placeOf a d.c.srv)
  have hck : (mps.getD (placeOf a d.c.srv) zeroPeer).cookie = (d.ps.getD (placeOf a d.c.srv) zeroPeer).cookie := by
    obtain ⟨c', e, _⟩ := hg
    rw [e]
  have han := hg.answer t (d.k.at t).c (d.k.at t).all (lookR l (d.ps.getD (placeOf a d.c.srv) zeroPeer).cookie) (pktOf l).recv (pktOf l).xmit
  unfold hearS
  simp only [h1, h2, h3, h4, at_shift, hck]
  split
  · exact ⟨hh, rfl⟩
  split
  · exact ⟨hh, rfl⟩
  generalize (d.ps.getD (placeOf a d.c.srv) zeroPeer).answer t (d.k.at t).c (d.k.at t).all (lookR l (d.ps.getD (placeOf a d.c.srv) zeroPeer).cookie) (pktOf l).recv (pktOf l).xmit = r at *
  generalize (mps.getD (placeOf a d.c.srv) zeroPeer).answer t ((d.k.at t).c + s * 1000000000) (d.k.at t).all (lookR l (d.ps.getD (placeOf a d.c.srv) zeroPeer).cookie) (shiftN s (pktOf l).recv) (shiftN s (pktOf l).xmit) = r' at *
  obtain ⟨g1, g2⟩ := han
  have hset := hs.set g1 (placeOf a d.c.srv)
  obtain ⟨r1, r2⟩ := r
  obtain ⟨r1', r2'⟩ := r'
  simp only at g1 g2 hset ⊢
  subst g2
  split
  · exact ⟨⟨rfl, rfl, hset.get, rfl, rfl, rfl⟩, rfl⟩
  · rename_i x _
    have hz : Shifted s { d with ps := d.ps.set (placeOf a d.c.srv) r1, ss := d.ss.set (placeOf a d.c.srv) (storeAdd (d.ss.getD (placeOf a d.c.srv) []) x) }
        ⟨d.c, { d.k with c := d.k.c + s * 1000000000 }, mps.set (placeOf a d.c.srv) r1', d.ss.set (placeOf a d.c.srv) (storeAdd (d.ss.getD (placeOf a d.c.srv) []) x), mn, d.draw, d.h, mt, mv, mch⟩ := ⟨rfl, rfl, hset.get, rfl, rfl, rfl⟩
    exact ⟨take_apart hz t, rfl⟩
/-- Both do the same, but for the clock. -/
theorem Shifted.do {s : Int} {d m : DaemonS} (h : Shifted s d m) {e e' : EvS} (hk : e'.kind = e.kind) (hh : e'.h = e.h) (ha : e'.addr = e.addr) (hdr : e'.draw = e.draw)
    (hdat : e.kind = 1 → e'.data.length = e.data.length ∧ (∀ k, lookR e'.data k = lookR e.data k) ∧ (pktOf e'.data).recv = shiftN s (pktOf e.data).recv ∧ (pktOf e'.data).xmit = shiftN s (pktOf e.data).xmit) :
    errS m e' = errS d e ∧ Shifted s (doS d e).1 (doS m e').1 ∧ (doS m e').2.sends = (doS d e).2.sends ∧ (doS m e').2.wake = (doS d e).2.wake ∧ (doS m e').2.reason = (doS d e).2.reason ∧
      (errS d e = 0 → (doS m e').2.clock = (doS d e).2.clock + s * 1000000000) := by
  have he : errS m e' = errS d e := by
    unfold errS
    rw [hk, hh, h.h]
  have hat : ∀ {d m : DaemonS}, Shifted s d m → ∀ t, (m.k.at t).c = (d.k.at t).c + s * 1000000000 := by
    intro d m h t
    rw [h.k, at_shift]
  refine ⟨he, ?_⟩
  by_cases h0 : errS d e = 0
  · have hw : Shifted s { d with h := e.h } { m with h := e.h } := ⟨h.c, h.k, h.ps, h.ss, h.draw, rfl⟩
    have e1 : ∀ (d : DaemonS) (e : EvS), errS d e = 0 → doS d e = if e.kind = 0 then ((tickS { d with h := e.h } e.h e.draw).1, ⟨(tickS { d with h := e.h } e.h e.draw).2, ((tickS { d with h := e.h } e.h e.draw).1.k.at e.h).c, wakeS (tickS { d with h := e.h } e.h e.draw).1.ps, 0⟩)
        else ((datagramS { d with h := e.h } e.h e.addr e.data).1, ⟨[], ((datagramS { d with h := e.h } e.h e.addr e.data).1.k.at e.h).c, wakeS (datagramS { d with h := e.h } e.h e.addr e.data).1.ps, (datagramS { d with h := e.h } e.h e.addr e.data).2⟩) := by
      intro d e h
      unfold doS
      rw [if_neg (by simp [h])]
    rw [e1 d e h0, e1 m e' (he.trans h0), hk, hh, ha, hdr]
    by_cases hk0 : e.kind = 0
    · rw [if_pos hk0, if_pos hk0]
      have hd : drawOf { m with h := e.h } e.draw = drawOf { d with h := e.h } e.draw := by
        unfold drawOf
        show (if e.draw = 0 then m.draw else e.draw) = if e.draw = 0 then d.draw else e.draw
        rw [h.draw]
      have hp := (h.sets.late e.h).ask e.h (d.k.at e.h).c (drawOf { d with h := e.h } e.draw)
      have hse := (h.sets.late e.h).sends e.h (d.k.at e.h).c (drawOf { d with h := e.h } e.draw) d.c.srv
      have hx : Shifted s (tickS { d with h := e.h } e.h e.draw).1 (tickS { m with h := e.h } e.h e.draw).1 := by
        refine ⟨h.c, h.k, Sets.get ?_, h.ss, hd, rfl⟩
        show Sets s (askPs _ _ _ _) (askPs e.h (m.k.at e.h).c (drawOf { m with h := e.h } e.draw) (m.ps.map (·.late e.h)))
        rw [hd, hat h]
        exact hp
      refine ⟨hx, ?_, hx.sets.wake, rfl, fun _ => hat hx _⟩
      show askSends e.h (m.k.at e.h).c (drawOf { m with h := e.h } e.draw) (m.ps.map (·.late e.h)) m.c.srv = _
      rw [hd, hat h, h.c]
      exact hse
    · rw [if_neg hk0, if_neg hk0]
      have hk1 : e.kind = 1 := by have := (err_none h0).1; omega
      obtain ⟨g1, g2, g3, g4⟩ := hdat hk1
      obtain ⟨x1, x2⟩ := hear_apart hw e.h e.addr g1 g2 g3 g4
      have hx : Shifted s (datagramS { d with h := e.h } e.h e.addr e.data).1 (datagramS { m with h := e.h } e.h e.addr e'.data).1 := ⟨x1.c, x1.k, x1.ps, x1.ss, x1.draw, x1.h⟩
      exact ⟨hx, rfl, hx.sets.wake, x2, fun _ => hat hx _⟩
  · rw [doS_err h0, doS_err (d := m) (e := e') (by rw [he]; exact h0)]
    exact ⟨h, rfl, rfl, rfl, fun x => absurd x h0⟩
/-- Good answers of stamps that are apart. -/
theorem good_apart (s : Int) {draw a : Nat} (hd : draw < 18446744073709551616) (ha : a < 18446744073709551616) (h0 : a ≠ 0) (h1 : shiftN s a ≠ 0) :
    (goodP draw (shiftN s a) (shiftN s a)).bytes.length = (goodP draw a a).bytes.length ∧ (∀ k, lookR (goodP draw (shiftN s a) (shiftN s a)).bytes k = lookR (goodP draw a a).bytes k) ∧
      (pktOf (goodP draw (shiftN s a) (shiftN s a)).bytes).recv = shiftN s (pktOf (goodP draw a a).bytes).recv ∧ (pktOf (goodP draw (shiftN s a) (shiftN s a)).bytes).xmit = shiftN s (pktOf (goodP draw a a).bytes).xmit := by
  have hs := shiftN_lt s a
  rw [good_len, good_len, pkt_good hd hs hs, pkt_good hd ha ha]
  refine ⟨rfl, fun k => ?_, rfl, rfl⟩
  unfold lookR
  rw [good_len, good_len, pkt_good hd hs hs, pkt_good hd ha ha]
  unfold testR goodP
  simp only [h0, h1, or_self]
end Go.Proofs.YtjlilmonpklghaaGreatDoor

namespace Go.Proofs.YtjlilmonpklghaaGreatDoor
open Go.RowKit

theorem co_bytes_append (a b : List UInt8) : (⟨a.toArray⟩ : ByteArray) ++ ⟨b.toArray⟩ = ⟨(a ++ b).toArray⟩ := by
  apply ByteArray.ext
  simp

/-! ### What the rows list -/
def nameL : List (List UInt8) := [[116, 97, 107, 101, 110], [115, 104, 111, 114, 116], [117, 110, 107, 110, 111, 119, 110], [114, 101, 116, 105, 114, 101, 100], [105, 100, 108, 101], [118, 101, 114, 115, 105, 111, 110], [109, 111, 100, 101], [111, 114, 105, 103, 105, 110], [107, 105, 115, 115], [108, 101, 97, 112], [115, 116, 114, 97, 116, 117, 109], [122, 101, 114, 111], [115, 108, 111, 119]]

structure Laid (W : World) : Prop where
  pow : Lib.TabIs Tryz.prog W "internal/strconv.uint64pow10" .u64 Lib.pow10Tab
  names : W.var? Tryz.prog "chronobate/sane.names" = some (nameL.map fun s => Value.string ⟨s.toArray⟩).toArray

theorem co_gPow : Tryz.prog.globalNamed "internal/strconv.uint64pow10" = some 6 := by kernel_rfl
theorem co_gNames : Tryz.prog.globalNamed "chronobate/sane.names" = some 2 := by kernel_rfl

theorem Laid.mod {w w' : World} (h : Laid w) (hm : Mod NoB w w') : Laid w' := ⟨hm.var co_gPow id h.pow, hm.var co_gNames id h.names⟩

theorem Laid.name {w : World} (h : Laid w) (i : Nat) (hi : i < 13) : w.cell? ⟨2, i, none⟩ = some (.string (bs (nameL.getD i []))) := by
  rw [var_cell co_gNames h.names]
  have : nameL.length = 13 := rfl
  simp [List.getD, this, hi]

theorem co_itoa_any (n : Int) (hn : I64 n) (w : World) (h : Laid w) :
    Calls Tryz.prog 143 #[.int .i64 n] w fun e w' => e = .returned (.string (bs (Lib.itoa n))) ∧ Mod NoB w w' :=
  (Tryz.strconv_Itoa n hn.1 hn.2 w h.pow).mono fun e w' ⟨he, k, os, hw⟩ => ⟨he, by rw [hw]; exact ((Mod.refl _ _).drewN k).grow os⟩

/-- A list of the names, just made. -/
def NamesPost (w : World) (e : Ending) (w' : World) : Prop :=
  ∃ r cap, e = .returned (.slice (some ⟨r, 0, none⟩) 13 cap) ∧ (∀ i, i < 13 → w'.cell? ⟨r, i, none⟩ = some (.string (bs (nameL.getD i [])))) ∧ w.heap.size ≤ r ∧ r < w'.heap.size ∧ Mod NoB w w'

theorem co_names_any (w : World) (h : Laid w) : Calls Tryz.prog 142 #[] w (NamesPost w) := by
  have hc : ∀ j, j < (nameL.map bs).length → w.cell? ⟨2, 0 + j, none⟩ = some (.string ((nameL.map bs).getD j ByteArray.empty)) := by
    intro j hj
    have hj' : j < nameL.length := by simpa using hj
    rw [Nat.zero_add, h.name j hj']
    simp [List.getD, hj']
  replace h := hide h
  replace hc := hide hc
  go_enter Tryz.func142, Tryz.ntmps142
  go_wp2_with fail
  refine (Tryz.slices_Clone_string 2 0 13 13 (nameL.map bs) _ (by decide) (by decide) hc.out).mono ?_
  rintro e w1 ⟨v, rfl, hown, hne, hb⟩
  obtain ⟨r, cap, rfl⟩ : ∃ g cap, v = .slice (some ⟨g, 0, none⟩) 13 cap := by
    rcases hown.2 with ⟨_, h0⟩ | ⟨g, cap, _, hv, _⟩
    · omega
    · exact ⟨g, cap, hv⟩
  have hcell : ∀ i, i < 13 → w1.cell? ⟨r, i, none⟩ = some (.string (bs (nameL.getD i []))) := by
    intro i hi
    rw [hown.cellAt i (by omega)]
    have : nameL.length = 13 := rfl
    simp [List.getD, this, hi]
  have hr := hown.lt r rfl
  have hm := Below.mod hb
  replace hown := hide hown
  replace hcell := hide hcell
  replace hm := hide hm
  replace hb := hide hb
  clear hne
  go_wp2
  go_ret
  exact ⟨r, cap, rfl, hcell.out, hr.1, hr.2, hm.out⟩

end Go.Proofs.YtjlilmonpklghaaGreatDoor

