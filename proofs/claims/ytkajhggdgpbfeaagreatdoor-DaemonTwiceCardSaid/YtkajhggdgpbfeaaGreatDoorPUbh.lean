/- What a daemon sends, and when: plain. Daemons that are alike but for counts: plain. -/
import Derived.Test.YtkajhggdgpbfeaaGreatDoorPUbg
import Derived.Test.YtkajhggdgpbfeaaGreatDoorPUbc
namespace Go.Proofs.YtkajhggdgpbfeaaGreatDoor
set_option linter.unusedSimpArgs false
open Go.RowKit

/-- What is known of a server: when it was last asked, and whether it sent a kiss. -/
structure PeerS.Knows (p : PeerS) (least : Int) (last : Option Int) (kissed : Bool) : Prop where
  l : p.l = least
  n : least ≤ p.n
  m : least ≤ p.m
  t : ∀ t, last = some t → t ≤ p.sent ∧ (p.state = 0 → t + least * 1000000000 ≤ p.due)
  k : kissed = true → p.state = 2
  s : p.state = 0 ∨ p.state = 1 ∨ p.state = 2
theorem PeerS.Knows.late {p : PeerS} {least : Int} {last : Option Int} {kissed : Bool} (h : p.Knows least last kissed) (ho : p.Ok) (t : Int) : (p.late t).Knows least last kissed := by
  unfold PeerS.late
  split
  · rename_i hl
    have hst : p.state = 1 := by unfold PeerS.isLate at hl; have := of_decide_eq_true hl; exact this.1
    have hn : least ≤ nextZ p.n p.m := by
      have := ho.n1; have := ho.m1; have := h.n; have := h.m
      unfold nextZ
      split
      · omega
      · split <;> omega
    refine ⟨h.l, hn, h.m, fun u hu => ⟨(h.t u hu).1, fun _ => ?_⟩, fun k => by rw [h.k k] at hst; omega, Or.inl rfl⟩
    have := (h.t u hu).1
    show u + least * 1000000000 ≤ p.sent + nextZ p.n p.m * 1000000000
    omega
  · exact h
theorem PeerS.Knows.ask {p q : PeerS} {least : Int} {last : Option Int} {kissed : Bool} (h : p.Knows least last kissed) {t c : Int} {draw : Nat} (ha : p.ask t c draw = some q) :
    q.Knows least (some t) kissed ∧ draw ≠ 0 ∧ kissed = false ∧ ∀ u, last = some u → u + least * 1000000000 ≤ t := by
  unfold PeerS.ask at ha
  split at ha
  · rename_i hc
    cases ha
    obtain ⟨c1, c2, c3⟩ := hc
    refine ⟨⟨h.l, h.n, h.m, fun u hu => ?_, fun k => ?_, Or.inr (Or.inl rfl)⟩, c3, ?_, fun u hu => ?_⟩
    · cases hu
      exact ⟨Int.le_refl _, fun e => by have e : (1 : Int) = 0 := e; omega⟩
    · have := h.k k
      omega
    · cases hk : kissed with
      | false => rfl
      | true => have := h.k hk; omega
    · have := (h.t u hu).2 c1
      omega
  · cases ha
theorem PeerS.Knows.answer {p : PeerS} {least : Int} {last : Option Int} {kissed : Bool} (h : p.Knows least last kissed) (t c z why : Int) (rv xm : Nat) :
    (p.answer t c z why rv xm).1.Knows least last (kissed || decide ((p.answer t c z why rv xm).2.2 = 8)) := by
  have keep : kissed = (kissed || decide ((3 : Int) = 8)) := by simp
  unfold PeerS.answer
  split
  · simpa using h
  split
  · simpa using h
  split
  · rename_i h8
    exact ⟨h.l, h.n, h.m, fun u hu => ⟨(h.t u hu).1, fun e => by have e : (2 : Int) = 0 := e; omega⟩, fun _ => rfl, Or.inr (Or.inr rfl)⟩
  split
  · rename_i h8 _
    simpa [h8] using h
  split
  · simpa using h
  · rename_i h2 h0 _ _ _
    have h1 : p.state = 1 := by have := h.s; omega
    refine ⟨h.l, by show least ≤ p.l; have := h.l; omega, h.m, fun u hu => ⟨(h.t u hu).1, fun _ => ?_⟩, fun k => ?_, Or.inl rfl⟩
    · have := (h.t u hu).1
      have := h.l
      show u + least * 1000000000 ≤ p.sent + p.l * 1000000000
      rw [h.l]
      omega
    · have := h.k (by simpa using k)
      omega
/-- What is known of all servers. -/
def DaemonS.Knows (d : DaemonS) (last : Int → Option Int) (kissed : Int → Bool) : Prop :=
  ∀ (i : Nat) p a, d.ps[i]? = some p → d.c.srv[i]? = some a → p.Knows d.c.l (last a) (kissed a)
theorem newS_knows {c : Cfg} (hc : checkC c = 0) (h clock : Int) : (newS c h clock).Knows (fun _ => none) (fun _ => false) := by
  obtain ⟨⟨a1, a2⟩, ⟨a3, a4⟩, _⟩ := cfg_nums hc
  intro i p a hp ha
  have : p = newPeer c h := by
    have := List.mem_of_getElem? hp
    obtain ⟨_, _, rfl⟩ := List.mem_map.1 this
    rfl
  subst this
  refine ⟨rfl, Int.le_refl _, a3, fun u hu => (by cases hu), fun k => (by cases k), Or.inl rfl⟩
theorem place_get {a : Int} : ∀ {l : List Int}, placeOf a l ≠ l.length → l[placeOf a l]? = some a := by
  intro l
  induction l with
  | nil => intro h; exact absurd rfl h
  | cons y l ih =>
    intro h
    unfold placeOf at h ⊢
    by_cases e : y = a
    · simp [e]
    · rw [if_neg e] at h ⊢
      simp only [List.getElem?_cons_succ]
      exact ih (fun h2 => h (by simp [h2]))
/-- Sends of a tick come of servers that are asked. -/
theorem askSends_mem {h clock : Int} {draw : Nat} {ps : List PeerS} {srv : List Int} {x : Int × List Nat} (hx : x ∈ askSends h clock draw ps srv) :
    ∃ (i : Nat) (p q : PeerS), ps[i]? = some p ∧ srv[i]? = some x.1 ∧ p.ask h clock draw = some q ∧ x.2 = (queryP draw).bytes := by
  obtain ⟨y, hy, hyx⟩ := List.mem_filterMap.1 hx
  obtain ⟨i, hi⟩ := List.mem_iff_getElem?.1 hy
  obtain ⟨h1, h2⟩ := List.getElem?_zip_eq_some.1 hi
  cases ha : y.1.ask h clock draw with
  | none => rw [ha] at hyx; cases hyx
  | some q =>
    rw [ha] at hyx
    cases hyx
    exact ⟨i, y.1, q, h1, h2, ha, rfl⟩
/-- No server is asked twice by a tick. -/
theorem askSends_nodup {h clock : Int} {draw : Nat} : ∀ {ps : List PeerS} {srv : List Int}, srv.Nodup → ((askSends h clock draw ps srv).map (·.1)).Nodup := by
  intro ps
  induction ps with
  | nil => intro srv _; simp [askSends]
  | cons p ps ih =>
    intro srv hn
    cases srv with
    | nil => simp [askSends]
    | cons s srv =>
      obtain ⟨hs, hn⟩ := List.nodup_cons.1 hn
      have hr := ih hn
      have hsub : ∀ a ∈ (askSends h clock draw ps srv).map (·.1), a ∈ srv := by
        intro a ha
        obtain ⟨x, hx, rfl⟩ := List.mem_map.1 ha
        obtain ⟨i, p, q, _, h2, _⟩ := askSends_mem hx
        exact List.mem_of_getElem? h2
      unfold askSends at hr hsub ⊢
      rw [List.zip_cons_cons, List.filterMap_cons]
      cases (p.ask h clock draw) with
      | none => exact hr
      | some q => exact List.nodup_cons.2 ⟨fun hm => hs (hsub _ hm), hr⟩
/-- When a server was last asked, behind some sends. -/
def sentBy (h : Int) (L : List (Int × List Nat)) (last : Int → Option Int) : Int → Option Int := fun a => if a ∈ L.map (·.1) then some h else last a
theorem askPs_get {h c : Int} {draw : Nat} {ps : List PeerS} {i : Nat} {q : PeerS} (hq : (askPs h c draw ps)[i]? = some q) : ∃ p, ps[i]? = some p ∧ q = (p.ask h c draw).getD p := by
  unfold askPs at hq
  rw [List.getElem?_map] at hq
  cases hp : ps[i]? with
  | none => rw [hp] at hq; cases hq
  | some p => rw [hp] at hq; cases hq; exact ⟨p, rfl, rfl⟩
theorem askSends_has {h c : Int} {draw : Nat} {ps : List PeerS} {srv : List Int} {i : Nat} {p q : PeerS} {a : Int} (hp : ps[i]? = some p) (ha : srv[i]? = some a) (hk : p.ask h c draw = some q) : a ∈ (askSends h c draw ps srv).map (·.1) := by
  refine List.mem_map.2 ⟨(a, (queryP draw).bytes), List.mem_filterMap.2 ⟨(p, a), ?_, by simp [hk]⟩, rfl⟩
  exact List.mem_of_getElem? (i := i) (List.getElem?_zip_eq_some.2 ⟨hp, ha⟩)
theorem nodup_get {l : List Int} (h : l.Nodup) {i j : Nat} {a : Int} (hi : l[i]? = some a) (hj : l[j]? = some a) : i = j := by
  obtain ⟨h1, e1⟩ := List.getElem?_eq_some_iff.1 hi
  obtain ⟨h2, e2⟩ := List.getElem?_eq_some_iff.1 hj
  rcases Nat.lt_trichotomy i j with h3 | h3 | h3
  · have := List.pairwise_iff_getElem.1 h i j h1 h2 h3
    rw [e1, e2] at this
    exact absurd rfl this
  · exact h3
  · have := List.pairwise_iff_getElem.1 h j i h2 h1 h3
    rw [e1, e2] at this
    exact absurd rfl this
/-- The answer of the peer that a datagram is of. -/
def ansOf (d : DaemonS) (h a : Int) (l : List Nat) : PeerS × Option SampleS × Int :=
  (d.ps.getD (placeOf a d.c.srv) zeroPeer).answer h (d.k.at h).c (d.k.at h).all (lookR l (d.ps.getD (placeOf a d.c.srv) zeroPeer).cookie) (pktOf l).recv (pktOf l).xmit
/-- The ways of a datagram. -/
theorem hear_cases (d : DaemonS) (h a : Int) (l : List Nat) : hearS d h a l = (d, 1) ∨ hearS d h a l = (d, 2) ∨ (placeOf a d.c.srv ≠ d.c.srv.length ∧
    (((ansOf d h a l).2.1 = none ∧ hearS d h a l = ({ d with ps := d.ps.set (placeOf a d.c.srv) (ansOf d h a l).1 }, (ansOf d h a l).2.2)) ∨
      ∃ x, (ansOf d h a l).2.1 = some x ∧ hearS d h a l = (takeS { d with ps := d.ps.set (placeOf a d.c.srv) (ansOf d h a l).1, ss := d.ss.set (placeOf a d.c.srv) (storeAdd (d.ss.getD (placeOf a d.c.srv) []) x) } h, (ansOf d h a l).2.2))) := by
  unfold ansOf
  unfold hearS
  split
  · exact Or.inl rfl
  split
  · exact Or.inr (Or.inl rfl)
  rename_i hne
  refine Or.inr (Or.inr ⟨hne, ?_⟩)
  simp only []
  split
  · rename_i hx
    exact Or.inl ⟨hx, rfl⟩
  · rename_i x hx
    exact Or.inr ⟨x, hx, rfl⟩
theorem PeerS.Knows.less {p : PeerS} {least : Int} {last : Option Int} {kissed kissed' : Bool} (h : p.Knows least last kissed) (hh : kissed' = true → kissed = true) : p.Knows least last kissed' :=
  ⟨h.l, h.n, h.m, h.t, fun k => h.k (hh k), h.s⟩
/-- What is known behind a datagram. -/
theorem hear_knows {d : DaemonS} (hnd : d.c.srv.Nodup) {last : Int → Option Int} {kissed kissed' : Int → Bool} (hk : d.Knows last kissed) (h a : Int) (l : List Nat)
    (hk' : ∀ x, kissed' x = true → kissed x = true ∨ (x = a ∧ (hearS d h a l).2 = 8)) : (hearS d h a l).1.Knows last kissed' := by
  have hno : (hearS d h a l).2 ≠ 8 → d.Knows last kissed' := fun h8 i p x hp hx => (hk i p x hp hx).less (fun k => (hk' x k).elim id (fun y => absurd y.2 h8))
  have hset : placeOf a d.c.srv ≠ d.c.srv.length → (hearS d h a l).2 = (ansOf d h a l).2.2 → ∀ (i : Nat) p x, (d.ps.set (placeOf a d.c.srv) (ansOf d h a l).1)[i]? = some p → d.c.srv[i]? = some x → p.Knows d.c.l (last x) (kissed' x) := by
    intro hne h8 i p x hp hx
    have hpl := place_get hne
    rw [List.getElem?_set] at hp
    split at hp
    · rename_i hi
      subst hi
      split at hp
      · rename_i hlt
        cases hp
        rw [hpl] at hx
        cases hx
        have hg : d.ps.getD (placeOf a d.c.srv) zeroPeer = d.ps[placeOf a d.c.srv] := by simp [List.getD, hlt]
        have := (hk _ _ _ (List.getElem?_eq_getElem hlt) hpl).answer h (d.k.at h).c (d.k.at h).all (lookR l (d.ps.getD (placeOf a d.c.srv) zeroPeer).cookie) (pktOf l).recv (pktOf l).xmit
        rw [← hg] at this
        refine PeerS.Knows.less this (fun k => ?_)
        rcases hk' a k with y | ⟨_, y⟩
        · rw [y]; rfl
        · rw [h8] at y
          unfold ansOf at y
          rw [y]
          simp
      · cases hp
    · rename_i hi
      have hae : x ≠ a := fun h => hi (by rw [h] at hx; exact nodup_get hnd hpl hx)
      exact (hk i p x hp hx).less (fun k => (hk' x k).elim id (fun y => absurd y.1 hae))
  rcases hear_cases d h a l with e | e | ⟨hne, ⟨_, e⟩ | ⟨y, _, e⟩⟩
  · have := hno (by rw [e]; simp)
    rw [e]
    exact this
  · have := hno (by rw [e]; simp)
    rw [e]
    exact this
  · have := hset hne (by rw [e])
    rw [e]
    exact this
  · have := hset hne (by rw [e])
    rw [e]
    intro i p x hp hx
    obtain ⟨t1, t2, t3, t4, t5, t6⟩ := take_rest { d with ps := d.ps.set (placeOf a d.c.srv) (ansOf d h a l).1, ss := d.ss.set (placeOf a d.c.srv) (storeAdd (d.ss.getD (placeOf a d.c.srv) []) y) } h
    rw [t5] at hp
    rw [t2] at hx ⊢
    exact this i p x hp hx
/-- What is known behind an event, and what is sent by it. -/
theorem do_sends {d : DaemonS} (hd : d.Ok) {e : EvS} (he : errS d e = 0) {last : Int → Option Int} {kissed : Int → Bool} (hk : d.Knows last kissed) :
    (doS d e).1.Knows (sentBy e.h (doS d e).2.sends last) (fun a => kissed a || (decide (e.kind = 1) && (decide (a = e.addr) && decide ((doS d e).2.reason = 8)))) ∧
      ((doS d e).2.sends.map (·.1)).Nodup ∧ (e.kind ≠ 0 → (doS d e).2.sends = []) ∧
      ∀ x ∈ (doS d e).2.sends, x.1 ∈ d.c.srv ∧ (doS d e).1.draw ≠ 0 ∧ x.2 = (queryP (doS d e).1.draw).bytes ∧ kissed x.1 = false ∧ ∀ u, last x.1 = some u → u + d.c.l * 1000000000 ≤ e.h := by
  obtain ⟨a1, a2⟩ := (cfg_nums hd.c).1
  have hnd : d.c.srv.Nodup := (fine_srv (check_fine hd.c)).1
  have hres : ∀ {α : Type} (x y : α), (if errS d e ≠ 0 then x else y) = y := fun x y => if_neg (by simp [he])
  unfold doS
  rw [hres]
  by_cases h0 : e.kind = 0
  · rw [if_pos h0]
    simp only []
    have hlate : ∀ (i : Nat) p a, (d.ps.map (·.late e.h))[i]? = some p → d.c.srv[i]? = some a → p.Knows d.c.l (last a) (kissed a) := by
      intro i p a hp ha
      rw [List.getElem?_map] at hp
      cases hq : d.ps[i]? with
      | none => rw [hq] at hp; cases hp
      | some q =>
        rw [hq] at hp
        cases hp
        exact (hk i q a hq ha).late (hd.p q (List.mem_of_getElem? hq)).1 _
    refine ⟨?_, askSends_nodup hnd, fun h => absurd h0 h, fun x hx => ?_⟩
    · intro i p a hp ha
      have hp : (askPs e.h (d.k.at e.h).c (drawOf d e.draw) (d.ps.map (·.late e.h)))[i]? = some p := hp
      have ha : d.c.srv[i]? = some a := ha
      show p.Knows d.c.l (sentBy e.h (askSends e.h (d.k.at e.h).c (drawOf d e.draw) (d.ps.map (·.late e.h)) d.c.srv) last a) (kissed a || (decide (e.kind = 1) && (decide (a = e.addr) && decide ((0 : Int) = 8))))
      rw [show decide (e.kind = 1) = false by simp [h0], Bool.false_and, Bool.or_false]
      obtain ⟨q, hq, rfl⟩ := askPs_get hp
      have hkq := hlate i q a hq ha
      unfold sentBy
      cases hask : q.ask e.h (d.k.at e.h).c (drawOf d e.draw) with
      | some r =>
        rw [if_pos (askSends_has hq ha hask)]
        exact (hkq.ask hask).1
      | none =>
        rw [if_neg]
        · exact hkq
        · intro hm
          obtain ⟨x, hx, hxa⟩ := List.mem_map.1 hm
          obtain ⟨j, p2, q2, g1, g2, g3, _⟩ := askSends_mem hx
          rw [hxa] at g2
          have := nodup_get hnd ha g2
          subst this
          rw [hq] at g1
          cases g1
          rw [hask] at g3
          cases g3
    · have hx : x ∈ askSends e.h (d.k.at e.h).c (drawOf d e.draw) (d.ps.map (·.late e.h)) d.c.srv := hx
      obtain ⟨i, p, q, g1, g2, g3, g4⟩ := askSends_mem hx
      obtain ⟨_, b1, b2, b3⟩ := (hlate i p x.1 g1 g2).ask g3
      exact ⟨List.mem_of_getElem? g2, b1, g4, b2, b3⟩
  · rw [if_neg h0]
    simp only []
    have hk1 : e.kind = 1 := by have := (err_none he).1; omega
    refine ⟨?_, by simp, by simp, fun x hx => by cases hx⟩
    have hs : sentBy e.h [] last = last := by funext a; simp [sentBy]
    rw [hs]
    exact fun i p a hp ha => hear_knows (d := { d with h := e.h }) hnd (last := last) (kissed := kissed) (kissed' := fun a => kissed a || (decide (e.kind = 1) && (decide (a = e.addr) && decide ((hearS { d with h := e.h } e.h e.addr e.data).2 = 8)))) hk e.h e.addr e.data (fun x hx => by
      rcases Bool.or_eq_true_iff.1 hx with y | y
      · exact Or.inl y
      · have y2 := Bool.and_eq_true_iff.1 (Bool.and_eq_true_iff.1 y).2
        exact Or.inr ⟨of_decide_eq_true y2.1, of_decide_eq_true y2.2⟩) i p a hp ha
end Go.Proofs.YtkajhggdgpbfeaaGreatDoor

namespace Go.Proofs.YtkajhggdgpbfeaaGreatDoor
set_option linter.unusedSimpArgs false
open Go.RowKit

/-- Alike, but for counts and when they last did something. -/
def Like (d m : DaemonS) : Prop := m = { d with n := m.n, h := m.h }
theorem Like.refl (d : DaemonS) : Like d d := rfl
theorem Like.symm {d m : DaemonS} (h : Like d m) : Like m d := by
  unfold Like at h ⊢
  rw [h]
theorem Like.trans {d m k : DaemonS} (h : Like d m) (h2 : Like m k) : Like d k := by
  unfold Like at h h2 ⊢
  rw [h2, h]
theorem Like.parts {d m : DaemonS} (h : Like d m) : m.c = d.c ∧ m.k = d.k ∧ m.ps = d.ps ∧ m.ss = d.ss ∧ m.draw = d.draw ∧ m.theta = d.theta ∧ m.votes = d.votes ∧ m.chosen = d.chosen := by
  unfold Like at h
  rw [h]
  exact ⟨rfl, rfl, rfl, rfl, rfl, rfl, rfl, rfl⟩
theorem Like.of {d m : DaemonS} (h : m.c = d.c ∧ m.k = d.k ∧ m.ps = d.ps ∧ m.ss = d.ss ∧ m.draw = d.draw ∧ m.theta = d.theta ∧ m.votes = d.votes ∧ m.chosen = d.chosen) : Like d m := by
  obtain ⟨a, b, c, e, f, g, i, j⟩ := h
  cases m
  cases d
  simp only at a b c e f g i j
  subst a b c e f g i j
  rfl
theorem take_with (d : DaemonS) (n : List Int) (h0 h : Int) : takeS { d with n := n, h := h0 } h = { takeS d h with n := n, h := h0 } := by
  unfold takeS
  simp only []
  split <;> rfl
theorem hear_with (d : DaemonS) (n : List Int) (h0 h a : Int) (l : List Nat) : hearS { d with n := n, h := h0 } h a l = ({ (hearS d h a l).1 with n := n, h := h0 }, (hearS d h a l).2) := by
  unfold hearS
  simp only []
  split
  · rfl
  split
  · rfl
  split
  · rename_i hx
    simp only [hx]
  · rename_i x hx
    simp only [hx]
    have := take_with { d with ps := d.ps.set (placeOf a d.c.srv) ((d.ps.getD (placeOf a d.c.srv) zeroPeer).answer h (d.k.at h).c (d.k.at h).all (lookR l (d.ps.getD (placeOf a d.c.srv) zeroPeer).cookie) (pktOf l).recv (pktOf l).xmit).1, ss := d.ss.set (placeOf a d.c.srv) (storeAdd (d.ss.getD (placeOf a d.c.srv) []) x) } n h0 h
    rw [← this]
/-- Alike daemons do the same. -/
theorem Like.do {d m : DaemonS} (h : Like d m) {e : EvS} (he : errS d e = errS m e) : Like (doS d e).1 (doS m e).1 ∧ (doS d e).2 = (doS m e).2 := by
  unfold Like at h
  generalize m.n = n at h
  generalize m.h = h0 at h
  subst h
  unfold doS
  rw [← he]
  split
  · exact ⟨rfl, rfl⟩
  · split
    · exact ⟨rfl, rfl⟩
    · have h1 := hear_with d d.n e.h e.h e.addr e.data
      have h2 := hear_with d n e.h e.h e.addr e.data
      have e1 : ({ d with n := d.n, h := e.h } : DaemonS) = { d with h := e.h } := rfl
      rw [e1] at h1
      unfold datagramS
      simp only []
      rw [h1, h2]
      exact ⟨rfl, rfl⟩
/-- A datagram that isn't taken, nor a kiss, leaves one alike. -/
theorem hear_deaf (d : DaemonS) (h a : Int) (l : List Nat) (hw : (hearS d h a l).2 ≠ 0 ∧ (hearS d h a l).2 ≠ 8) : (hearS d h a l).1 = d := by
  unfold hearS at hw ⊢
  split
  · rfl
  split
  · rfl
  rename_i h1 h2
  rw [if_neg h1, if_neg h2] at hw
  simp only [] at hw ⊢
  have key : ∀ p : PeerS, ∀ c z w rv xm, (p.answer h c z w rv xm).2.2 ≠ 0 → (p.answer h c z w rv xm).2.2 ≠ 8 → (p.answer h c z w rv xm).1 = p := by
    intro p c z w rv xm g1 g2
    unfold PeerS.answer at g1 g2 ⊢
    (repeat' split) <;> simp_all
  split
  · rename_i hx
    rw [hx] at hw
    simp only [] at hw
    rw [key _ _ _ _ _ _ hw.1 hw.2]
    have : d.ps.set (placeOf a d.c.srv) (d.ps.getD (placeOf a d.c.srv) zeroPeer) = d.ps := by
      apply List.ext_getElem?
      intro i
      rw [List.getElem?_set]
      split
      · rename_i hi
        subst hi
        split
        · rename_i hlt
          simp [List.getD, hlt]
        · rename_i hlt
          rw [List.getElem?_eq_none (by omega)]
      · rfl
    rw [this]
  · rename_i x hx
    rw [hx] at hw
    simp only [] at hw
    have := (answer_none (d.ps.getD (placeOf a d.c.srv) zeroPeer) h (d.k.at h).c (d.k.at h).all (lookR l (d.ps.getD (placeOf a d.c.srv) zeroPeer).cookie) (pktOf l).recv (pktOf l).xmit).2 hw.1
    rw [hx] at this
    cases this
theorem do_deaf {d : DaemonS} {e : EvS} (he : errS d e = 0) (hk : e.kind ≠ 0) (hw : (doS d e).2.reason ≠ 0 ∧ (doS d e).2.reason ≠ 8) : Like d (doS d e).1 := by
  have h1 := hear_with d d.n e.h e.h e.addr e.data
  have e1 : ({ d with n := d.n, h := e.h } : DaemonS) = { d with h := e.h } := rfl
  rw [e1] at h1
  unfold doS at hw ⊢
  rw [if_neg (by simp [he]), if_neg hk] at hw ⊢
  unfold datagramS at hw ⊢
  simp only [] at hw ⊢
  rw [h1] at hw ⊢
  simp only [] at hw ⊢
  rw [hear_deaf d e.h e.addr e.data hw]
  rfl
theorem late_state (z : PeerS) (t : Int) : z.late t = z ∨ (z.late t).state = 0 := by
  unfold PeerS.late
  split
  · exact Or.inr rfl
  · exact Or.inl rfl
/-- Cookies that are out. -/
def DaemonS.Out (d : DaemonS) (asked : Int → Nat) : Prop := ∀ (i : Nat) p a, d.ps[i]? = some p → d.c.srv[i]? = some a → (p.state = 0 ∨ p.state = 1 ∨ p.state = 2) ∧ (p.state = 1 → p.cookie = asked a)
theorem newS_outs (c : Cfg) (h clock : Int) : (newS c h clock).Out (fun _ => 0) := by
  intro i p a hp ha
  have : p = newPeer c h := by
    have := List.mem_of_getElem? hp
    obtain ⟨_, _, rfl⟩ := List.mem_map.1 this
    rfl
  subst this
  exact ⟨Or.inl rfl, fun e => by have e : (0 : Int) = 1 := e; omega⟩
/-- Whom a draw was sent to. -/
def askedBy (draw : Nat) (L : List (Int × List Nat)) (asked : Int → Nat) : Int → Nat := fun a => if a ∈ L.map (·.1) then draw else asked a
theorem Like.out {d m : DaemonS} (h : Like d m) {asked : Int → Nat} (ho : d.Out asked) : m.Out asked := by
  obtain ⟨a, _, c, _⟩ := h.parts
  intro i p x hp hx
  rw [c] at hp
  rw [a] at hx
  exact ho i p x hp hx
/-- Cookies that are out, behind a datagram. -/
theorem hear_outs {d : DaemonS} {asked : Int → Nat} (ho : d.Out asked) (h a : Int) (l : List Nat) : (hearS d h a l).1.Out asked := by
  have key : ∀ (p : PeerS) c z w rv xm x, ((p.state = 0 ∨ p.state = 1 ∨ p.state = 2) ∧ (p.state = 1 → p.cookie = asked x)) → (((p.answer h c z w rv xm).1.state = 0 ∨ (p.answer h c z w rv xm).1.state = 1 ∨ (p.answer h c z w rv xm).1.state = 2) ∧ ((p.answer h c z w rv xm).1.state = 1 → (p.answer h c z w rv xm).1.cookie = asked x)) := by
    intro p c z w rv xm x hp
    unfold PeerS.answer PeerS.rest
    (repeat' split) <;> simp_all
  have hset : ∀ {z : PeerS} (j i : Nat) p x, d.c.srv[i]? = some x → (∀ q b, d.ps[j]? = some q → d.c.srv[j]? = some b → ((z.state = 0 ∨ z.state = 1 ∨ z.state = 2) ∧ (z.state = 1 → z.cookie = asked b))) → (d.ps.set j z)[i]? = some p → ((p.state = 0 ∨ p.state = 1 ∨ p.state = 2) ∧ (p.state = 1 → p.cookie = asked x)) := by
    intro z j i p x ha hz hp
    rw [List.getElem?_set] at hp
    split at hp
    · rename_i hi
      subst hi
      split at hp
      · rename_i hlt
        cases hp
        exact hz _ _ (List.getElem?_eq_getElem hlt) ha
      · cases hp
    · exact ho i p x hp ha
  have hans : ∀ q b, d.ps[placeOf a d.c.srv]? = some q → d.c.srv[placeOf a d.c.srv]? = some b → _ := fun q b hq hb => key (d.ps.getD (placeOf a d.c.srv) zeroPeer) (d.k.at h).c (d.k.at h).all (lookR l (d.ps.getD (placeOf a d.c.srv) zeroPeer).cookie) (pktOf l).recv (pktOf l).xmit b (by rw [show d.ps.getD (placeOf a d.c.srv) zeroPeer = q by simp [List.getD, hq]]; exact ho _ q b hq hb)
  rcases hear_cases d h a l with e | e | ⟨hne, ⟨_, e⟩ | ⟨y, _, e⟩⟩
  · rw [e]; exact ho
  · rw [e]; exact ho
  · rw [e]
    intro i p x hp hx
    exact hset _ i p x hx hans hp
  · rw [e]
    intro i p x hp hx
    obtain ⟨t1, t2, t3, t4, t5, t6⟩ := take_rest { d with ps := d.ps.set (placeOf a d.c.srv) (ansOf d h a l).1, ss := d.ss.set (placeOf a d.c.srv) (storeAdd (d.ss.getD (placeOf a d.c.srv) []) y) } h
    rw [t5] at hp
    rw [t2] at hx
    exact hset _ i p x hx hans hp
theorem do_outs {d : DaemonS} (hd : d.Ok) {e : EvS} {asked : Int → Nat} (ho : d.Out asked) : (doS d e).1.Out (askedBy (doS d e).1.draw (doS d e).2.sends asked) := by
  have hnd : d.c.srv.Nodup := (fine_srv (check_fine hd.c)).1
  by_cases he : errS d e = 0
  · unfold doS
    rw [if_neg (by simp [he])]
    by_cases h0 : e.kind = 0
    · rw [if_pos h0]
      simp only []
      intro i p a hp ha
      have hp : (askPs e.h (d.k.at e.h).c (drawOf d e.draw) (d.ps.map (·.late e.h)))[i]? = some p := hp
      have ha : d.c.srv[i]? = some a := ha
      show (p.state = 0 ∨ p.state = 1 ∨ p.state = 2) ∧ (p.state = 1 → p.cookie = askedBy (drawOf d e.draw) (askSends e.h (d.k.at e.h).c (drawOf d e.draw) (d.ps.map (·.late e.h)) d.c.srv) asked a)
      obtain ⟨q, hq, rfl⟩ := askPs_get hp
      have hkq : (q.state = 0 ∨ q.state = 1 ∨ q.state = 2) ∧ (q.state = 1 → q.cookie = asked a) := by
        rw [List.getElem?_map] at hq
        cases hz : d.ps[i]? with
        | none => rw [hz] at hq; cases hq
        | some z =>
          rw [hz] at hq
          cases hq
          have := ho i z a hz ha
          rcases late_state z e.h with e1 | e1
          · show ((z.late e.h).state = 0 ∨ (z.late e.h).state = 1 ∨ (z.late e.h).state = 2) ∧ ((z.late e.h).state = 1 → (z.late e.h).cookie = asked a)
            rw [e1]
            exact this
          · show ((z.late e.h).state = 0 ∨ (z.late e.h).state = 1 ∨ (z.late e.h).state = 2) ∧ ((z.late e.h).state = 1 → (z.late e.h).cookie = asked a)
            exact ⟨Or.inl e1, fun e2 => by omega⟩
      unfold askedBy
      cases hask : q.ask e.h (d.k.at e.h).c (drawOf d e.draw) with
      | some r =>
        rw [if_pos (askSends_has hq ha hask)]
        unfold PeerS.ask at hask
        split at hask
        · cases hask
          exact ⟨Or.inr (Or.inl rfl), fun _ => rfl⟩
        · cases hask
      | none =>
        rw [if_neg]
        · exact hkq
        · intro hm
          obtain ⟨x, hx, hxa⟩ := List.mem_map.1 hm
          obtain ⟨j, p2, q2, g1, g2, g3, _⟩ := askSends_mem hx
          rw [hxa] at g2
          have := nodup_get hnd ha g2
          subst this
          rw [hq] at g1
          cases g1
          rw [hask] at g3
          cases g3
    · rw [if_neg h0]
      simp only []
      have hs : ∀ dr, askedBy dr [] asked = asked := by intro dr; funext a; simp [askedBy]
      rw [hs]
      exact fun i p a hp ha => hear_outs (d := { d with h := e.h }) ho e.h e.addr e.data i p a hp ha
  · rw [doS_err he]
    have hs : askedBy d.draw out0.sends asked = asked := by funext a; simp [askedBy, out0]
    rw [hs]
    exact ho
/-- What isn't the answer that is asked for isn't taken, nor a kiss. -/
theorem out_deaf {d : DaemonS} (hd : d.Ok) {asked : Int → Nat} (ho : d.Out asked) {h a : Int} {b : List Nat} (hb : lookR b (asked a) ≠ 0 ∧ lookR b (asked a) ≠ 8) : (hearS d h a b).2 ≠ 0 ∧ (hearS d h a b).2 ≠ 8 := by
  unfold hearS
  split
  · exact ⟨by simp, by simp⟩
  split
  · exact ⟨by simp, by simp⟩
  rename_i hne
  have hpl := place_get (Ne.intro (fun h => hne h) : placeOf a d.c.srv ≠ d.c.srv.length)
  have hlt : placeOf a d.c.srv < d.ps.length := by rw [hd.pn]; exact (List.getElem?_eq_some_iff.1 hpl).1
  have hp := ho _ _ a (List.getElem?_eq_getElem hlt) hpl
  have hg : d.ps.getD (placeOf a d.c.srv) zeroPeer = d.ps[placeOf a d.c.srv] := by simp [List.getD, hlt]
  rw [← hg] at hp
  simp only []
  generalize d.ps.getD (placeOf a d.c.srv) zeroPeer = p at *
  have hw : (p.answer h (d.k.at h).c (d.k.at h).all (lookR b p.cookie) (pktOf b).recv (pktOf b).xmit).2.2 ≠ 0 ∧ (p.answer h (d.k.at h).c (d.k.at h).all (lookR b p.cookie) (pktOf b).recv (pktOf b).xmit).2.2 ≠ 8 := by
    unfold PeerS.answer
    split
    · exact ⟨by simp, by simp⟩
    split
    · exact ⟨by simp, by simp⟩
    · rename_i h2 h0
      have h1 : p.state = 1 := by have := hp.1; omega
      rw [hp.2 h1]
      rw [if_neg hb.2, if_pos hb.1]
      exact hb
  split
  · exact hw
  · exact hw
end Go.Proofs.YtkajhggdgpbfeaaGreatDoor

