/- Two daemons beside one another. Events that may not be (plain); DaemonErrors' walk. What a daemon sends, and when: plain. Daemons that are alike but for counts: plain. -/
import Derived.Test.YtpjfiplejhbdfaaGreatDoorPUbf
import Derived.Test.YtpjfiplejhbdfaaGreatDoorPUbc
namespace Go.Proofs.YtpjfiplejhbdfaaGreatDoor
set_option linter.unusedSimpArgs false
open Go.RowKit

/-- Two daemons that share nothing, both made since w0, in which nothing old has turned. -/
structure Two (w0 : World) (P P' : DPl) (d m : DaemonS) (w : World) : Prop where
  d : DO w P d
  m : DO w P' m
  apart : ∀ k, fpD P k → ¬ fpD P' k
  loL : ∀ k, fpD P k → w0.heap.size ≤ k
  loR : ∀ k, fpD P' k → w0.heap.size ≤ k
  old : Mod NoB w0 w
/-- One daemon, made since w0. -/
structure One (w0 : World) (P : DPl) (d : DaemonS) (w : World) : Prop where
  d : DO w P d
  lo : ∀ k, fpD P k → w0.heap.size ≤ k
  old : Mod NoB w0 w
theorem One.quiet {w0 w w' : World} {P : DPl} {d : DaemonS} (h : One w0 P d w) (hm : Mod NoB w w') : One w0 P d w' := ⟨h.d.quiet hm, h.lo, h.old.trans hm⟩
theorem One.step {w0 w w' : World} {P P1 : DPl} {d d1 : DaemonS} (h : One w0 P d w) (hd : DO w' P1 d1) (ht : DTo P P1 w w') : One w0 P1 d1 w' :=
  ⟨hd, fun k hk => (ht.f k hk).elim (h.lo k) (fun x => Nat.le_trans h.old.size x), h.old.into ht.m (fun k hk => Or.inr (h.lo k hk))⟩
theorem One.b {w0 w : World} {P : DPl} {d : DaemonS} (h : One w0 P d w) : w0.heap.size ≤ P.b := h.lo _ .b
theorem Two.left {w0 w : World} {P P' : DPl} {d m : DaemonS} (h : Two w0 P P' d m w) : One w0 P d w := ⟨h.d, h.loL, h.old⟩
theorem Two.right {w0 w : World} {P P' : DPl} {d m : DaemonS} (h : Two w0 P P' d m w) : One w0 P' m w := ⟨h.m, h.loR, h.old⟩
theorem Two.quiet {w0 w w' : World} {P P' : DPl} {d m : DaemonS} (h : Two w0 P P' d m w) (hm : Mod NoB w w') : Two w0 P P' d m w' :=
  ⟨h.d.quiet hm, h.m.quiet hm, h.apart, h.loL, h.loR, h.old.trans hm⟩
/-- New is called. -/
theorem One.new {l : List UInt8} {h clock : Int} {w w' : World} {e : Ending} (hn : DNewPost l h clock w e w') {c : Cfg} (hc : newOut l h clock = .inr c) :
    ∃ P, e = .returned (.tuple #[at0 P.b, .int .i64 0, .int .i64 0]) ∧ One w P (newS c h clock) w' := by
  obtain ⟨hm, ⟨line, er, _, h1⟩ | ⟨P, c', h1, h2, h3, h4⟩⟩ := hn
  · rw [hc] at h1
    cases h1
  · rw [hc] at h2
    cases h2
    exact ⟨P, h1, h3, h4, hm⟩
/-- New is called beside a daemon. -/
theorem Two.new {l : List UInt8} {h clock : Int} {w0 w w' : World} {e : Ending} {P : DPl} {d : DaemonS} (ho : One w0 P d w) (hn : DNewPost l h clock w e w') {c : Cfg} (hc : newOut l h clock = .inr c) :
    ∃ P', e = .returned (.tuple #[at0 P'.b, .int .i64 0, .int .i64 0]) ∧ Two w0 P P' d (newS c h clock) w' := by
  obtain ⟨P', h1, h2⟩ := One.new hn hc
  exact ⟨P', h1, ho.d.quiet hn.1, h2.d, fun k a b => Nat.lt_irrefl _ (Nat.lt_of_lt_of_le (ho.d.lt k a) (h2.lo k b)), ho.lo, fun k hk => Nat.le_trans ho.old.size (h2.lo k hk), ho.old.trans hn.1⟩
/-- New makes none. -/
theorem new_none {l : List UInt8} {h clock : Int} {w w' : World} {e : Ending} (hn : DNewPost l h clock w e w') {x : Int × Int} (hc : newOut l h clock = .inl x) :
    e = .returned (.tuple #[.pointer none, .int .i64 x.1, .int .i64 x.2]) ∧ Mod NoB w w' := by
  obtain ⟨hm, ⟨line, er, h1, h2⟩ | ⟨P, c', h1, h2, _⟩⟩ := hn
  · rw [hc] at h2
    cases h2
    exact ⟨h1, hm⟩
  · rw [hc] at h2
    cases h2
end Go.Proofs.YtpjfiplejhbdfaaGreatDoor

namespace Go.Proofs.YtpjfiplejhbdfaaGreatDoor
set_option linter.unusedSimpArgs false
open Go.RowKit

theorem doS_err {d : DaemonS} {e : EvS} (h : errS d e ≠ 0) : doS d e = (d, out0) := by unfold doS; rw [if_pos h]
/-- Events that may not be, in a row. -/
def BadAt (w : World) (d : DaemonS) (S : Nat → Prop) (g m : Nat) : Prop :=
  ∀ i, i < m → ∃ (e : EvS) (dp : Option Addr) (dc : Nat), w.cell? ⟨g, i * 5, none⟩ = some (.int .i64 e.kind) ∧ w.cell? ⟨g, i * 5 + 1, none⟩ = some (.int .i64 e.h) ∧ w.cell? ⟨g, i * 5 + 2, none⟩ = some (.int .i64 e.addr) ∧
    w.cell? ⟨g, i * 5 + 3, none⟩ = some (.int .u64 (e.draw : Int)) ∧ w.cell? ⟨g, i * 5 + 4, none⟩ = some (.slice dp e.data.length dc) ∧ DataAt w (.slice dp e.data.length dc) e.data ∧
    I64 e.kind ∧ I64 e.h ∧ I64 e.addr ∧ e.draw < 18446744073709551616 ∧ errS d e ≠ 0 ∧ ∀ bd off, dp = some ⟨bd, off, none⟩ → 0 < e.data.length → ¬ S bd
theorem BadAt.mod {w w' : World} {d : DaemonS} {S : Nat → Prop} {g m : Nat} (h : BadAt w d S g m) (hm : Mod NoB w w') : BadAt w' d S g m := fun i hi =>
  let ⟨e, dp, dc, h0, h1, h2, h3, h4, h5, h6⟩ := h i hi
  ⟨e, dp, dc, hm.cellAt id h0, hm.cellAt id h1, hm.cellAt id h2, hm.cellAt id h3, hm.cellAt id h4, h5.mod hm, h6⟩
theorem BadAt.apart {w w' : World} {d : DaemonS} {S : Nat → Prop} {g m : Nat} (h : BadAt w d S g m) (hm : Mod S w w') (hg : ¬ S g) : BadAt w' d S g m := fun i hi =>
  let ⟨e, dp, dc, h0, h1, h2, h3, h4, h5, a, b, c, dd, ee, h6⟩ := h i hi
  ⟨e, dp, dc, hm.cellAt hg h0, hm.cellAt hg h1, hm.cellAt hg h2, hm.cellAt hg h3, hm.cellAt hg h4, DataAt.modS h5 hm (fun bd off p n hp h0 => by obtain ⟨rfl, _⟩ := Value.slice.inj hp; exact h6 bd off rfl h0), a, b, c, dd, ee, h6⟩
/-- An event's data lie apart of all that is the daemon's. -/
theorem ev_apart {w0 w : World} {P : DPl} {d : DaemonS} (h : One w0 P d w) {dp dp' : Option Addr} {l l' : List Nat} (hd : ∀ bd off, dp = some ⟨bd, off, none⟩ → 0 < l.length → bd < w0.heap.size)
    (he : (dp' = dp ∧ l' = l) ∨ ∀ bd off, dp' = some ⟨bd, off, none⟩ → w.heap.size ≤ bd) : ∀ bd off, dp' = some ⟨bd, off, none⟩ → 0 < l'.length → ¬ fpD P bd := by
  intro bd off hb hl e
  rcases he with ⟨rfl, rfl⟩ | he
  · exact Nat.lt_irrefl _ (Nat.lt_of_lt_of_le (hd _ _ hb hl) (h.lo _ e))
  · exact Nat.lt_irrefl _ (Nat.lt_of_lt_of_le (h.d.lt _ e) (he _ _ hb))
end Go.Proofs.YtpjfiplejhbdfaaGreatDoor

namespace Go.Proofs.YtpjfiplejhbdfaaGreatDoor
set_option linter.unusedSimpArgs false
open Go.RowKit

/-- What is known of a server: when it was last asked, and whether it sent a kiss. -/
structure PeerS.Knows (p : PeerS) (least : Int) (last : Option Int) (kissed : Bool) : Prop where
  l : p.l = least
  n : least ≤ p.n
  m : least ≤ p.m
  t : ∀ t, last = some t → t ≤ p.sent ∧ (p.state = 0 → t + least * 1000000000 ≤ p.due)
  k : kissed = true → p.state = 2
  s : p.state = 0 ∨ p.state = 1 ∨ p.state = 2
theorem PeerS.Knows.late {p : PeerS} {least : Int} {last : Option Int} {kissed : Bool} (h : p.Knows least last kissed) (ho : p.Ok) (t : Int) : (p.late t).Knows least last kissed := by
  unfold PeerS.late
  split
  · rename_i hl
    have hst : p.state = 1 := by unfold PeerS.isLate at hl; have := of_decide_eq_true hl; exact this.1
    have hn : least ≤ nextZ p.n p.m := by
      have := ho.n1; have := ho.m1; have := h.n; have := h.m
      unfold nextZ
      split
      · omega
      · split <;> omega
    refine ⟨h.l, hn, h.m, fun u hu => ⟨(h.t u hu).1, fun _ => ?_⟩, fun k => by rw [h.k k] at hst; omega, Or.inl rfl⟩
    have := (h.t u hu).1
    show u + least * 1000000000 ≤ p.sent + nextZ p.n p.m * 1000000000
    omega
  · exact h
theorem PeerS.Knows.ask {p q : PeerS} {least : Int} {last : Option Int} {kissed : Bool} (h : p.Knows least last kissed) {t c : Int} {draw : Nat} (ha : p.ask t c draw = some q) :
    q.Knows least (some t) kissed ∧ draw ≠ 0 ∧ kissed = false ∧ ∀ u, last = some u → u + least * 1000000000 ≤ t := by
  unfold PeerS.ask at ha
  split at ha
  · rename_i hc
    cases ha
    obtain ⟨c1, c2, c3⟩ := hc
    refine ⟨⟨h.l, h.n, h.m, fun u hu => ?_, fun k => ?_, Or.inr (Or.inl rfl)⟩, c3, ?_, fun u hu => ?_⟩
    · cases hu
      exact ⟨Int.le_refl _, fun e => by have e : (1 : Int) = 0 := e; omega⟩
    · have := h.k k
      omega
    · cases hk : kissed with
      | false => rfl
      | true => have := h.k hk; omega
    · have := (h.t u hu).2 c1
      omega
  · cases ha
theorem PeerS.Knows.answer {p : PeerS} {least : Int} {last : Option Int} {kissed : Bool} (h : p.Knows least last kissed) (t c z why : Int) (rv xm : Nat) :
    (p.answer t c z why rv xm).1.Knows least last (kissed || decide ((p.answer t c z why rv xm).2.2 = 8)) := by
  have keep : kissed = (kissed || decide ((3 : Int) = 8)) := by simp
  unfold PeerS.answer
  split
  · simpa using h
  split
  · simpa using h
  split
  · rename_i h8
    exact ⟨h.l, h.n, h.m, fun u hu => ⟨(h.t u hu).1, fun e => by have e : (2 : Int) = 0 := e; omega⟩, fun _ => rfl, Or.inr (Or.inr rfl)⟩
  split
  · rename_i h8 _
    simpa [h8] using h
  split
  · simpa using h
  · rename_i h2 h0 _ _ _
    have h1 : p.state = 1 := by have := h.s; omega
    refine ⟨h.l, by show least ≤ p.l; have := h.l; omega, h.m, fun u hu => ⟨(h.t u hu).1, fun _ => ?_⟩, fun k => ?_, Or.inl rfl⟩
    · have := (h.t u hu).1
      have := h.l
      show u + least * 1000000000 ≤ p.sent + p.l * 1000000000
      rw [h.l]
      omega
    · have := h.k (by simpa using k)
      omega
/-- What is known of all servers. -/
def DaemonS.Knows (d : DaemonS) (last : Int → Option Int) (kissed : Int → Bool) : Prop :=
  ∀ (i : Nat) p a, d.ps[i]? = some p → d.c.srv[i]? = some a → p.Knows d.c.l (last a) (kissed a)
theorem newS_knows {c : Cfg} (hc : checkC c = 0) (h clock : Int) : (newS c h clock).Knows (fun _ => none) (fun _ => false) := by
  obtain ⟨⟨a1, a2⟩, ⟨a3, a4⟩, _⟩ := cfg_nums hc
  intro i p a hp ha
  have : p = newPeer c h := by
    have := List.mem_of_getElem? hp
    obtain ⟨_, _, rfl⟩ := List.mem_map.1 this
    rfl
  subst this
  refine ⟨rfl, Int.le_refl _, a3, fun u hu => (by cases hu), fun k => (by cases k), Or.inl rfl⟩
theorem place_get {a : Int} : ∀ {l : List Int}, placeOf a l ≠ l.length → l[placeOf a l]? = some a := by
  intro l
  induction l with
  | nil => intro h; exact absurd rfl h
  | cons y l ih =>
    intro h
    unfold placeOf at h ⊢
    by_cases e : y = a
    · simp [e]
    · rw [if_neg e] at h ⊢
      simp only [List.getElem?_cons_succ]
      exact ih (fun h2 => h (by simp [h2]))
/-- Sends of a tick come of servers that are asked. -/
theorem askSends_mem {h clock : Int} {draw : Nat} {ps : List PeerS} {srv : List Int} {x : Int × List Nat} (hx : x ∈ askSends h clock draw ps srv) :
    ∃ (i : Nat) (p q : PeerS), ps[i]? = some p ∧ srv[i]? = some x.1 ∧ p.ask h clock draw = some q ∧ x.2 = (queryP draw).bytes := by
  obtain ⟨y, hy, hyx⟩ := List.mem_filterMap.1 hx
  obtain ⟨i, hi⟩ := List.mem_iff_getElem?.1 hy
  obtain ⟨h1, h2⟩ := List.getElem?_zip_eq_some.1 hi
  cases ha : y.1.ask h clock draw with
  | none => rw [ha] at hyx; cases hyx
  | some q =>
    rw [ha] at hyx
    cases hyx
    exact ⟨i, y.1, q, h1, h2, ha, rfl⟩
/-- No server is asked twice by a tick. -/
theorem askSends_nodup {h clock : Int} {draw : Nat} : ∀ {ps : List PeerS} {srv : List Int}, srv.Nodup → ((askSends h clock draw ps srv).map (·.1)).Nodup := by
  intro ps
  induction ps with
  | nil => intro srv _; simp [askSends]
  | cons p ps ih =>
    intro srv hn
    cases srv with
    | nil => simp [askSends]
    | cons s srv =>
      obtain ⟨hs, hn⟩ := List.nodup_cons.1 hn
      have hr := ih hn
      have hsub : ∀ a ∈ (askSends h clock draw ps srv).map (·.1), a ∈ srv := by
        intro a ha
        obtain ⟨x, hx, rfl⟩ := List.mem_map.1 ha
        obtain ⟨i, p, q, _, h2, _⟩ := askSends_mem hx
        exact List.mem_of_getElem? h2
      unfold askSends at hr hsub ⊢
      rw [List.zip_cons_cons, List.filterMap_cons]
      cases (p.ask h clock draw) with
      | none => exact hr
      | some q => exact List.nodup_cons.2 ⟨fun hm => hs (hsub _ hm), hr⟩
/-- When a server was last asked, behind some sends. -/
def sentBy (h : Int) (L : List (Int × List Nat)) (last : Int → Option Int) : Int → Option Int := fun a => if a ∈ L.map (·.1) then some h else last a
theorem askPs_get {h c : Int} {draw : Nat} {ps : List PeerS} {i : Nat} {q : PeerS} (hq : (askPs h c draw ps)[i]? = some q) : ∃ p, ps[i]? = some p ∧ q = (p.ask h c draw).getD p := by
  unfold askPs at hq
  rw [List.getElem?_map] at hq
  cases hp : ps[i]? with
  | none => rw [hp] at hq; cases hq
  | some p => rw [hp] at hq; cases hq; exact ⟨p, rfl, rfl⟩
theorem askSends_has {h c : Int} {draw : Nat} {ps : List PeerS} {srv : List Int} {i : Nat} {p q : PeerS} {a : Int} (hp : ps[i]? = some p) (ha : srv[i]? = some a) (hk : p.ask h c draw = some q) : a ∈ (askSends h c draw ps srv).map (·.1) := by
  refine List.mem_map.2 ⟨(a, (queryP draw).bytes), List.mem_filterMap.2 ⟨(p, a), ?_, by simp [hk]⟩, rfl⟩
  exact List.mem_of_getElem? (i := i) (List.getElem?_zip_eq_some.2 ⟨hp, ha⟩)
theorem nodup_get {l : List Int} (h : l.Nodup) {i j : Nat} {a : Int} (hi : l[i]? = some a) (hj : l[j]? = some a) : i = j := by
  obtain ⟨h1, e1⟩ := List.getElem?_eq_some_iff.1 hi
  obtain ⟨h2, e2⟩ := List.getElem?_eq_some_iff.1 hj
  rcases Nat.lt_trichotomy i j with h3 | h3 | h3
  · have := List.pairwise_iff_getElem.1 h i j h1 h2 h3
    rw [e1, e2] at this
    exact absurd rfl this
  · exact h3
  · have := List.pairwise_iff_getElem.1 h j i h2 h1 h3
    rw [e1, e2] at this
    exact absurd rfl this
/-- The answer of the peer that a datagram is of. -/
def ansOf (d : DaemonS) (h a : Int) (l : List Nat) : PeerS × Option SampleS × Int :=
  (d.ps.getD (placeOf a d.c.srv) zeroPeer).answer h (d.k.at h).c (d.k.at h).all (lookR l (d.ps.getD (placeOf a d.c.srv) zeroPeer).cookie) (pktOf l).recv (pktOf l).xmit
/-- The ways of a datagram. -/
theorem hear_cases (d : DaemonS) (h a : Int) (l : List Nat) : hearS d h a l = (d, 1) ∨ hearS d h a l = (d, 2) ∨ (placeOf a d.c.srv ≠ d.c.srv.length ∧
    (((ansOf d h a l).2.1 = none ∧ hearS d h a l = ({ d with ps := d.ps.set (placeOf a d.c.srv) (ansOf d h a l).1 }, (ansOf d h a l).2.2)) ∨
      ∃ x, (ansOf d h a l).2.1 = some x ∧ hearS d h a l = (takeS { d with ps := d.ps.set (placeOf a d.c.srv) (ansOf d h a l).1, ss := d.ss.set (placeOf a d.c.srv) (storeAdd (d.ss.getD (placeOf a d.c.srv) []) x) } h, (ansOf d h a l).2.2))) := by
  unfold ansOf
  unfold hearS
  split
  · exact Or.inl rfl
  split
  · exact Or.inr (Or.inl rfl)
  rename_i hne
  refine Or.inr (Or.inr ⟨hne, ?_⟩)
  simp only []
  split
  · rename_i hx
    exact Or.inl ⟨hx, rfl⟩
  · rename_i x hx
    exact Or.inr ⟨x, hx, rfl⟩
theorem PeerS.Knows.less {p : PeerS} {least : Int} {last : Option Int} {kissed kissed' : Bool} (h : p.Knows least last kissed) (hh : kissed' = true → kissed = true) : p.Knows least last kissed' :=
  ⟨h.l, h.n, h.m, h.t, fun k => h.k (hh k), h.s⟩
/-- What is known behind a datagram. -/
theorem hear_knows {d : DaemonS} (hnd : d.c.srv.Nodup) {last : Int → Option Int} {kissed kissed' : Int → Bool} (hk : d.Knows last kissed) (h a : Int) (l : List Nat)
    (hk' : ∀ x, kissed' x = true → kissed x = true ∨ (x = a ∧ (hearS d h a l).2 = 8)) : (hearS d h a l).1.Knows last kissed' := by
  have hno : (hearS d h a l).2 ≠ 8 → d.Knows last kissed' := fun h8 i p x hp hx => (hk i p x hp hx).less (fun k => (hk' x k).elim id (fun y => absurd y.2 h8))
  have hset : placeOf a d.c.srv ≠ d.c.srv.length → (hearS d h a l).2 = (ansOf d h a l).2.2 → ∀ (i : Nat) p x, (d.ps.set (placeOf a d.c.srv) (ansOf d h a l).1)[i]? = some p → d.c.srv[i]? = some x → p.Knows d.c.l (last x) (kissed' x) := by
    intro hne h8 i p x hp hx
    have hpl := place_get hne
    rw [List.getElem?_set] at hp
    split at hp
    · rename_i hi
      subst hi
      split at hp
      · rename_i hlt
        cases hp
        rw [hpl] at hx
        cases hx
        have hg : d.ps.getD (placeOf a d.c.srv) zeroPeer = d.ps[placeOf a d.c.srv] := by simp [List.getD, hlt]
        have := (hk _ _ _ (List.getElem?_eq_getElem hlt) hpl).answer h (d.k.at h).c (d.k.at h).all (lookR l (d.ps.getD (placeOf a d.c.srv) zeroPeer).cookie) (pktOf l).recv (pktOf l).xmit
        rw [← hg] at this
        refine PeerS.Knows.less this (fun k => ?_)
        rcases hk' a k with y | ⟨_, y⟩
        · rw [y]; rfl
        · rw [h8] at y
          unfold ansOf at y
          rw [y]
          simp
      · cases hp
    · rename_i hi
      have hae : x ≠ a := fun h => hi (by rw [h] at hx; exact nodup_get hnd hpl hx)
      exact (hk i p x hp hx).less (fun k => (hk' x k).elim id (fun y => absurd y.1 hae))
  rcases hear_cases d h a l with e | e | ⟨hne, ⟨_, e⟩ | ⟨y, _, e⟩⟩
  · have := hno (by rw [e]; simp)
    rw [e]
    exact this
  · have := hno (by rw [e]; simp)
    rw [e]
    exact this
  · have := hset hne (by rw [e])
    rw [e]
    exact this
  · have := hset hne (by rw [e])
    rw [e]
    intro i p x hp hx
    obtain ⟨t1, t2, t3, t4, t5, t6⟩ := take_rest { d with ps := d.ps.set (placeOf a d.c.srv) (ansOf d h a l).1, ss := d.ss.set (placeOf a d.c.srv) (storeAdd (d.ss.getD (placeOf a d.c.srv) []) y) } h
    rw [t5] at hp
    rw [t2] at hx ⊢
    exact this i p x hp hx
/-- What is known behind an event, and what is sent by it. -/
theorem do_sends {d : DaemonS} (hd : d.Ok) {e : EvS} (he : errS d e = 0) {last : Int → Option Int} {kissed : Int → Bool} (hk : d.Knows last kissed) :
    (doS d e).1.Knows (sentBy e.h (doS d e).2.sends last) (fun a => kissed a || (decide (e.kind = 1) && (decide (a = e.addr) && decide ((doS d e).2.reason = 8)))) ∧
      ((doS d e).2.sends.map (·.1)).Nodup ∧ (e.kind ≠ 0 → (doS d e).2.sends = []) ∧
      ∀ x ∈ (doS d e).2.sends, x.1 ∈ d.c.srv ∧ (doS d e).1.draw ≠ 0 ∧ x.2 = (queryP (doS d e).1.draw).bytes ∧ kissed x.1 = false ∧ ∀ u, last x.1 = some u → u + d.c.l * 1000000000 ≤ e.h := by
  obtain ⟨a1, a2⟩ := (cfg_nums hd.c).1
  have hnd : d.c.srv.Nodup := (fine_srv (check_fine hd.c)).1
  have hres : ∀ {α : Type} (x y : α), (if errS d e ≠ 0 then x else y) = y := fun x y => if_neg (by simp [he])
  unfold doS
  rw [hres]
  by_cases h0 : e.kind = 0
  · rw [if_pos h0]
    simp only []
    have hlate : ∀ (i : Nat) p a, (d.ps.map (·.late e.h))[i]? = some p → d.c.srv[i]? = some a → p.Knows d.c.l (last a) (kissed a) := by
      intro i p a hp ha
      rw [List.getElem?_map] at hp
      cases hq : d.ps[i]? with
      | none => rw [hq] at hp; cases hp
      | some q =>
        rw [hq] at hp
        cases hp
        exact (hk i q a hq ha).late (hd.p q (List.mem_of_getElem? hq)).1 _
    refine ⟨?_, askSends_nodup hnd, fun h => absurd h0 h, fun x hx => ?_⟩
    · intro i p a hp ha
      have hp : (askPs e.h (d.k.at e.h).c (drawOf d e.draw) (d.ps.map (·.late e.h)))[i]? = some p := hp
      have ha : d.c.srv[i]? = some a := ha
      show p.Knows d.c.l (sentBy e.h (askSends e.h (d.k.at e.h).c (drawOf d e.draw) (d.ps.map (·.late e.h)) d.c.srv) last a) (kissed a || (decide (e.kind = 1) && (decide (a = e.addr) && decide ((0 : Int) = 8))))
      rw [show decide (e.kind = 1) = false by simp [h0], Bool.false_and, Bool.or_false]
      obtain ⟨q, hq, rfl⟩ := askPs_get hp
      have hkq := hlate i q a hq ha
      unfold sentBy
      cases hask : q.ask e.h (d.k.at e.h).c (drawOf d e.draw) with
      | some r =>
        rw [if_pos (askSends_has hq ha hask)]
        exact (hkq.ask hask).1
      | none =>
        rw [if_neg]
        · exact hkq
        · intro hm
          obtain ⟨x, hx, hxa⟩ := List.mem_map.1 hm
          obtain ⟨j, p2, q2, g1, g2, g3, _⟩ := askSends_mem hx
          rw [hxa] at g2
          have := nodup_get hnd ha g2
          subst this
          rw [hq] at g1
          cases g1
          rw [hask] at g3
          cases g3
    · have hx : x ∈ askSends e.h (d.k.at e.h).c (drawOf d e.draw) (d.ps.map (·.late e.h)) d.c.srv := hx
      obtain ⟨i, p, q, g1, g2, g3, g4⟩ := askSends_mem hx
      obtain ⟨_, b1, b2, b3⟩ := (hlate i p x.1 g1 g2).ask g3
      exact ⟨List.mem_of_getElem? g2, b1, g4, b2, b3⟩
  · rw [if_neg h0]
    simp only []
    have hk1 : e.kind = 1 := by have := (err_none he).1; omega
    refine ⟨?_, by simp, by simp, fun x hx => by cases hx⟩
    have hs : sentBy e.h [] last = last := by funext a; simp [sentBy]
    rw [hs]
    exact fun i p a hp ha => hear_knows (d := { d with h := e.h }) hnd (last := last) (kissed := kissed) (kissed' := fun a => kissed a || (decide (e.kind = 1) && (decide (a = e.addr) && decide ((hearS { d with h := e.h } e.h e.addr e.data).2 = 8)))) hk e.h e.addr e.data (fun x hx => by
      rcases Bool.or_eq_true_iff.1 hx with y | y
      · exact Or.inl y
      · have y2 := Bool.and_eq_true_iff.1 (Bool.and_eq_true_iff.1 y).2
        exact Or.inr ⟨of_decide_eq_true y2.1, of_decide_eq_true y2.2⟩) i p a hp ha
end Go.Proofs.YtpjfiplejhbdfaaGreatDoor

namespace Go.Proofs.YtpjfiplejhbdfaaGreatDoor
set_option linter.unusedSimpArgs false
open Go.RowKit

/-- Alike, but for counts and when they last did something. -/
def Like (d m : DaemonS) : Prop := m = { d with n := m.n, h := m.h }
theorem Like.refl (d : DaemonS) : Like d d := rfl
theorem Like.symm {d m : DaemonS} (h : Like d m) : Like m d := by
  unfold Like at h ⊢
  rw [h]
theorem Like.trans {d m k : DaemonS} (h : Like d m) (h2 : Like m k) : Like d k := by
  unfold Like at h h2 ⊢
  rw [h2, h]
theorem Like.parts {d m : DaemonS} (h : Like d m) : m.c = d.c ∧ m.k = d.k ∧ m.ps = d.ps ∧ m.ss = d.ss ∧ m.draw = d.draw ∧ m.theta = d.theta ∧ m.votes = d.votes ∧ m.chosen = d.chosen := by
  unfold Like at h
  rw [h]
  exact ⟨rfl, rfl, rfl, rfl, rfl, rfl, rfl, rfl⟩
theorem Like.of {d m : DaemonS} (h : m.c = d.c ∧ m.k = d.k ∧ m.ps = d.ps ∧ m.ss = d.ss ∧ m.draw = d.draw ∧ m.theta = d.theta ∧ m.votes = d.votes ∧ m.chosen = d.chosen) : Like d m := by
  obtain ⟨a, b, c, e, f, g, i, j⟩ := h
  cases m
  cases d
  simp only at a b c e f g i j
  subst a b c e f g i j
  rfl
theorem take_with (d : DaemonS) (n : List Int) (h0 h : Int) : takeS { d with n := n, h := h0 } h = { takeS d h with n := n, h := h0 } := by
  unfold takeS
  simp only []
  split <;> rfl
theorem hear_with (d : DaemonS) (n : List Int) (h0 h a : Int) (l : List Nat) : hearS { d with n := n, h := h0 } h a l = ({ (hearS d h a l).1 with n := n, h := h0 }, (hearS d h a l).2) := by
  unfold hearS
  simp only []
  split
  · rfl
  split
  · rfl
  split
  · rename_i hx
    simp only [hx]
  · rename_i x hx
    simp only [hx]
    have := take_with { d with ps := d.ps.set (placeOf a d.c.srv) ((d.ps.getD (placeOf a d.c.srv) zeroPeer).answer h (d.k.at h).c (d.k.at h).all (lookR l (d.ps.getD (placeOf a d.c.srv) zeroPeer).cookie) (pktOf l).recv (pktOf l).xmit).1, ss := d.ss.set (placeOf a d.c.srv) (storeAdd (d.ss.getD (placeOf a d.c.srv) []) x) } n h0 h
    rw [← this]
/-- Alike daemons do the same. -/
theorem Like.do {d m : DaemonS} (h : Like d m) {e : EvS} (he : errS d e = errS m e) : Like (doS d e).1 (doS m e).1 ∧ (doS d e).2 = (doS m e).2 := by
  unfold Like at h
  generalize m.n = n at h
  generalize m.h = h0 at h
  subst h
  unfold doS
  rw [← he]
  split
  · exact ⟨rfl, rfl⟩
  · split
    · exact ⟨rfl, rfl⟩
    · have h1 := hear_with d d.n e.h e.h e.addr e.data
      have h2 := hear_with d n e.h e.h e.addr e.data
      have e1 : ({ d with n := d.n, h := e.h } : DaemonS) = { d with h := e.h } := rfl
      rw [e1] at h1
      unfold datagramS
      simp only []
      rw [h1, h2]
      exact ⟨rfl, rfl⟩
/-- Cookies that are out. -/
def DaemonS.Out (d : DaemonS) (asked : Int → Nat) : Prop := ∀ (i : Nat) p a, d.ps[i]? = some p → d.c.srv[i]? = some a → (p.state = 0 ∨ p.state = 1 ∨ p.state = 2) ∧ (p.state = 1 → p.cookie = asked a)
theorem Like.out {d m : DaemonS} (h : Like d m) {asked : Int → Nat} (ho : d.Out asked) : m.Out asked := by
  obtain ⟨a, _, c, _⟩ := h.parts
  intro i p x hp hx
  rw [c] at hp
  rw [a] at hx
  exact ho i p x hp hx
end Go.Proofs.YtpjfiplejhbdfaaGreatDoor

