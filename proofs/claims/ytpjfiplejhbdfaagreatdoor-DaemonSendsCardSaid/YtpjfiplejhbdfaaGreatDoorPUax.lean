/- peer.Answer of any peer (contract). What a daemon owns; a daemon that goes on. A daemon stays in its bounds: plain. A daemon's parts called: the daemon goes on (contracts). What a tick sends, how peers turn one by one: plain; where sends lie. -/
import Derived.Test.YtpjfiplejhbdfaaGreatDoorPUaw
namespace Go.Proofs.YtpjfiplejhbdfaaGreatDoor
set_option linter.unusedSimpArgs false
open Go.RowKit

theorem panswer_any (b bk : Nat) (p : PeerS) (hp : p.Fit) (h clock slewed : Int) (hck : I64 clock) (bd off cap : Nat) (l : List Nat) (hl : 48 ≤ l.length) (hlc : l.length ≤ cap) (hcp : cap ≤ 9223372036854775807) (w : World) (hb : PeerO w b bk p) (hd : BytesAt w bd off l) :
    Calls Tryz.prog 118 #[at0 b, .int .i64 h, .int .i64 clock, .int .i64 slewed, .slice (some ⟨bd, off, none⟩) l.length cap] w fun e w' =>
      e = .returned (ansV (p.answer h clock slewed (lookR l p.cookie) (pktOf l).recv (pktOf l).xmit)) ∧ PeerO w' b bk (p.answer h clock slewed (lookR l p.cookie) (pktOf l).recv (pktOf l).xmit).1 ∧ Mod (fun k => k = b ∨ k = bk) w w' := by
  by_cases hs : p.state = 2 ∨ p.state = 0
  · refine (pans_state b bk p h clock slewed _ w hb.pb hs (lookR l p.cookie) (pktOf l).recv (pktOf l).xmit).mono ?_
    rintro e w' ⟨rfl, hm⟩
    refine ⟨rfl, ?_, hm.mono (fun _ _ f => f.elim)⟩
    have : (p.answer h clock slewed (lookR l p.cookie) (pktOf l).recv (pktOf l).xmit).1 = p := by
      unfold PeerS.answer
      rcases hs with h2 | h0
      · rw [if_pos h2]
      · rw [if_neg (by omega), if_pos h0]
    rw [this]
    exact hb.mod hm id id
  · exact pans_any b bk p hp.1 h clock slewed bd off cap l hl hlc hcp w hb hd (by omega) (by omega) hp.2.1 hck
/-- A packet answers peer i of a daemon. -/
theorem DO.answer {P : DPl} {d : DaemonS} {w : World} (hd : DO w P d) {i : Nat} {bb : Nat × Nat} {p : PeerS} (hbb : P.pbs[i]? = some bb) (hpe : d.ps[i]? = some p) (hp : p.Fit) (h clock slewed : Int) (hck : I64 clock) (bd off cap : Nat) (l : List Nat) (hl : 48 ≤ l.length) (hlc : l.length ≤ cap) (hcp : cap ≤ 9223372036854775807) (hdt : BytesAt w bd off l) :
    Calls Tryz.prog 118 #[at0 bb.1, .int .i64 h, .int .i64 clock, .int .i64 slewed, .slice (some ⟨bd, off, none⟩) l.length cap] w fun e w' =>
      e = .returned (ansV (p.answer h clock slewed (lookR l p.cookie) (pktOf l).recv (pktOf l).xmit)) ∧ DO w' P { d with ps := d.ps.set i (p.answer h clock slewed (lookR l p.cookie) (pktOf l).recv (pktOf l).xmit).1 } ∧ Mod (fun k => k = bb.1 ∨ k = bb.2) w w' := by
  refine (panswer_any bb.1 bb.2 p hp h clock slewed hck bd off cap l hl hlc hcp w (hd.peer i bb p hbb hpe) hdt).mono ?_
  rintro e w' ⟨rfl, hpo, hm⟩
  exact ⟨rfl, hd.peerSet hbb hpe hm hpo, hm⟩
end Go.Proofs.YtpjfiplejhbdfaaGreatDoor

namespace Go.Proofs.YtpjfiplejhbdfaaGreatDoor
set_option linter.unusedSimpArgs false
open Go.RowKit

/-- A daemon's blocks. -/
def fpD (P : DPl) (k : Nat) : Prop :=
  k = P.b ∨ k = P.bk ∨ (∃ x ∈ P.pbs, k = x.1 ∨ k = x.2) ∨ (∃ s ∈ P.ss, k = s.b ∨ k = s.rb ∨ s.sl.ownBlock = some k) ∨ k = P.bq ∨ k = P.bqm ∨ k = P.bc ∨
    P.pv.ownBlock = some k ∨ P.sv.ownBlock = some k ∨ P.vv.ownBlock = some k ∨ ∃ off, P.sp = some ⟨k, off, none⟩
theorem fpD.b {P : DPl} : fpD P P.b := Or.inl rfl
theorem fpD.bk {P : DPl} : fpD P P.bk := Or.inr (Or.inl rfl)
theorem fpD.peer {P : DPl} {x : Nat × Nat} (h : x ∈ P.pbs) {k : Nat} (hk : k = x.1 ∨ k = x.2) : fpD P k := Or.inr (Or.inr (Or.inl ⟨x, h, hk⟩))
theorem fpD.store {P : DPl} {s : StP} (h : s ∈ P.ss) {k : Nat} (hk : k = s.b ∨ k = s.rb ∨ s.sl.ownBlock = some k) : fpD P k := Or.inr (Or.inr (Or.inr (Or.inl ⟨s, h, hk⟩)))
theorem fpD.bq {P : DPl} : fpD P P.bq := Or.inr (Or.inr (Or.inr (Or.inr (Or.inl rfl))))
theorem fpD.bqm {P : DPl} : fpD P P.bqm := Or.inr (Or.inr (Or.inr (Or.inr (Or.inr (Or.inl rfl)))))
theorem fpD.bc {P : DPl} : fpD P P.bc := Or.inr (Or.inr (Or.inr (Or.inr (Or.inr (Or.inr (Or.inl rfl))))))
theorem fpD.pv {P : DPl} {k : Nat} (h : P.pv.ownBlock = some k) : fpD P k := Or.inr (Or.inr (Or.inr (Or.inr (Or.inr (Or.inr (Or.inr (Or.inl h)))))))
theorem fpD.sv {P : DPl} {k : Nat} (h : P.sv.ownBlock = some k) : fpD P k := Or.inr (Or.inr (Or.inr (Or.inr (Or.inr (Or.inr (Or.inr (Or.inr (Or.inl h))))))))
theorem fpD.vv {P : DPl} {k : Nat} (h : P.vv.ownBlock = some k) : fpD P k := Or.inr (Or.inr (Or.inr (Or.inr (Or.inr (Or.inr (Or.inr (Or.inr (Or.inr (Or.inl h)))))))))
theorem fpD.sp {P : DPl} {k off : Nat} (h : P.sp = some ⟨k, off, none⟩) : fpD P k := Or.inr (Or.inr (Or.inr (Or.inr (Or.inr (Or.inr (Or.inr (Or.inr (Or.inr (Or.inr ⟨off, h⟩)))))))))
/-- What lies apart of a daemon leaves it alone. -/
theorem DO.apart {w w' : World} {P : DPl} {d : DaemonS} (h : DO w P d) {S : Nat → Prop} (hm : Mod S w w') (hS : ∀ k, S k → ¬ fpD P k) : DO w' P d := by
  have n : ∀ k, fpD P k → ¬ S k := fun k hk hs => hS k hs hk
  refine ⟨hm.heap h.blk (n _ .b), h.srv.mod hm (fun g off hp => n _ (.sp hp)), h.srvl, hm.heap h.clk (n _ .bk), ownsRow_mod2 h.prow hm (fun g hg => n _ (.pv hg)), h.pn,
    fun i x p hx hp => (h.peer i x p hx hp).mod hm (n _ (.peer (List.mem_of_getElem? hx) (Or.inl rfl))) (n _ (.peer (List.mem_of_getElem? hx) (Or.inr rfl))), h.pinj, h.plo,
    ownsRow_mod2 h.srow hm (fun g hg => n _ (.sv hg)), h.sxs, fun s hs => (h.store s hs).mod hm (n _ (.store hs (Or.inl rfl))) (n _ (.store hs (Or.inr (Or.inl rfl)))) (fun g hg => n _ (.store hs (Or.inr (Or.inr hg)))), h.sinj, h.slo,
    let ⟨L, hq, hl⟩ := h.que; ⟨L, hq.mod hm (n _ .bq) (n _ .bqm), hl⟩, ⟨hm.heap h.cnt.1 (n _ .bc), h.cnt.2⟩, ownsRow_mod2 h.vrow hm (fun g hg => n _ (.vv hg)), h.los, Nat.le_trans h.lts hm.size⟩
/-- A daemon goes on from where it lies to where it lies then. -/
structure DTo (P P' : DPl) (w w' : World) : Prop where
  b : P'.b = P.b
  m : Mod (fpD P) w w'
  f : ∀ k, fpD P' k → fpD P k ∨ w.heap.size ≤ k
theorem DTo.refl (P : DPl) (w : World) : DTo P P w w := ⟨rfl, Mod.refl _ _, fun _ h => Or.inl h⟩
theorem DTo.of {P : DPl} {w w' : World} {S : Nat → Prop} (hm : Mod S w w') (hS : ∀ k, S k → fpD P k) : DTo P P w w' := ⟨rfl, hm.mono (fun k _ h => hS k h), fun _ h => Or.inl h⟩
theorem DTo.quiet {P : DPl} {w w' : World} (hm : Mod NoB w w') : DTo P P w w' := .of hm (fun _ h => h.elim)
theorem DTo.trans {P P1 P2 : DPl} {w w1 w2 : World} (h : DTo P P1 w w1) (k : DTo P1 P2 w1 w2) : DTo P P2 w w2 :=
  ⟨k.b.trans h.b, h.m.into k.m (fun b hb => h.f b hb), fun b hb => (k.f b hb).elim (h.f b) (fun x => Or.inr (Nat.le_trans h.m.size x))⟩
theorem DTo.drew {P P' : DPl} {w w' : World} (h : DTo P P' w w') : DTo P P' w w'.drew := ⟨h.b, h.m.drew, h.f⟩
/-- Behind quiet steps. -/
theorem DTo.thenQ {P P1 : DPl} {w w1 w2 : World} (h : DTo P P1 w w1) (k : Mod NoB w1 w2) : DTo P P1 w w2 := h.trans (.quiet k)
/-- Another store's place. -/
theorem DTo.storeSet {P : DPl} {w w' : World} {i : Nat} {s : StP} {sl' : Value} {xs' : List SampleS} (hs : P.ss[i]? = some s) (hm : Mod (ringOwn s.rb s.sl) w w')
    (hown : ∀ g, sl'.ownBlock = some g → s.sl.ownBlock = some g ∨ w.heap.size ≤ g) : DTo P { P with ss := P.ss.set i ⟨s.b, s.rb, sl', xs'⟩ } w w' := by
  have hmem := List.mem_of_getElem? hs
  refine ⟨rfl, hm.mono fun k _ h => ?_, fun k hk => ?_⟩
  · rcases h with h | h
    · exact .store hmem (Or.inr (Or.inl h))
    · exact .store hmem (Or.inr (Or.inr h))
  · rcases hk with h | h | h | h | h
    · exact Or.inl (h ▸ .b)
    · exact Or.inl (h ▸ .bk)
    · obtain ⟨x, hx, hk⟩ := h
      exact Or.inl (fpD.peer (P := P) hx hk)
    · obtain ⟨y, hy, hk⟩ := h
      rcases List.mem_or_eq_of_mem_set hy with h1 | h1
      · exact Or.inl (fpD.store (P := P) h1 hk)
      · subst h1
        rcases hk with h | h | h
        · exact Or.inl (.store hmem (Or.inl h))
        · exact Or.inl (.store hmem (Or.inr (Or.inl h)))
        · exact (hown k h).elim (fun h => Or.inl (.store hmem (Or.inr (Or.inr h)))) Or.inr
    · exact Or.inl (Or.inr (Or.inr (Or.inr (Or.inr h))))
/-- Other votes. -/
theorem DTo.self {P : DPl} {w w' : World} {vv : Value} {S : Nat → Prop} (hm : Mod S w w') (hS : ∀ k, S k → fpD P k) (hv : ∀ g, vv.ownBlock = some g → P.vv.ownBlock = some g ∨ w.heap.size ≤ g) : DTo P { P with vv := vv } w w' := by
  refine ⟨rfl, hm.mono fun k _ h => hS k h, fun k hk => ?_⟩
  rcases hk with h | h | h | h | h | h | h | h | h | h | h
  · exact Or.inl (h ▸ .b)
  · exact Or.inl (h ▸ .bk)
  · obtain ⟨x, hx, hk⟩ := h
    exact Or.inl (fpD.peer (P := P) hx hk)
  · obtain ⟨x, hx, hk⟩ := h
    exact Or.inl (fpD.store (P := P) hx hk)
  · exact Or.inl (h ▸ .bq)
  · exact Or.inl (h ▸ .bqm)
  · exact Or.inl (h ▸ .bc)
  · exact Or.inl (.pv h)
  · exact Or.inl (.sv h)
  · exact (hv k h).elim (fun h => Or.inl (.vv h)) Or.inr
  · obtain ⟨off, h⟩ := h
    exact Or.inl (.sp h)
end Go.Proofs.YtpjfiplejhbdfaaGreatDoor

namespace Go.Proofs.YtpjfiplejhbdfaaGreatDoor
set_option linter.unusedSimpArgs false
open Go.RowKit

theorem answer_why (p : PeerS) (h c z : Int) (l : List Nat) (rv xm : Nat) : 0 ≤ (p.answer h c z (lookR l p.cookie) rv xm).2.2 ∧ (p.answer h c z (lookR l p.cookie) rv xm).2.2 ≤ 12 := by
  have := look_range l p.cookie
  unfold PeerS.answer
  repeat' split
  all_goals (simp only []; omega)
theorem answer_none (p : PeerS) (h c z w : Int) (rv xm : Nat) : (p.answer h c z w rv xm).2.1 = none ↔ (p.answer h c z w rv xm).2.2 ≠ 0 := by
  unfold PeerS.answer
  repeat' split
  all_goals simp_all
theorem take_rest (d : DaemonS) (h : Int) : (takeS d h).n = d.n ∧ (takeS d h).c = d.c ∧ (takeS d h).h = d.h ∧ (takeS d h).draw = d.draw ∧ (takeS d h).ps = d.ps ∧ (takeS d h).ss = d.ss := by
  unfold takeS
  split <;> exact ⟨rfl, rfl, rfl, rfl, rfl, rfl⟩
theorem hear_rest (d : DaemonS) (h a : Int) (l : List Nat) : (hearS d h a l).1.n = d.n ∧ (hearS d h a l).1.c = d.c ∧ (hearS d h a l).1.h = d.h ∧ (hearS d h a l).1.draw = d.draw := by
  unfold hearS
  split
  · exact ⟨rfl, rfl, rfl, rfl⟩
  split
  · exact ⟨rfl, rfl, rfl, rfl⟩
  simp only []
  split
  · exact ⟨rfl, rfl, rfl, rfl⟩
  · obtain ⟨a1, a2, a3, a4, _, _⟩ := take_rest { d with ps := d.ps.set (placeOf a d.c.srv) ((d.ps.getD (placeOf a d.c.srv) zeroPeer).answer h (d.k.at h).c (d.k.at h).all (lookR l (d.ps.getD (placeOf a d.c.srv) zeroPeer).cookie) (pktOf l).recv (pktOf l).xmit).1, ss := d.ss.set (placeOf a d.c.srv) (storeAdd (d.ss.getD (placeOf a d.c.srv) []) ‹SampleS›) } h
    exact ⟨a1, a2, a3, a4⟩
theorem hear_why (d : DaemonS) (h a : Int) (l : List Nat) : 0 ≤ (hearS d h a l).2 ∧ (hearS d h a l).2 ≤ 12 := by
  unfold hearS
  split
  · exact ⟨by simp, by simp⟩
  split
  · exact ⟨by simp, by simp⟩
  simp only []
  split
  all_goals exact answer_why _ _ _ _ _ _ _
theorem DaemonS.Ok.withH {d : DaemonS} (hd : d.Ok) {h : Int} (h0 : d.h ≤ h) (h1 : h ≤ 4611686018427387903) : ({ d with h := h } : DaemonS).Ok :=
  ⟨hd.c, hd.k, hd.p, hd.dr, hd.s, hd.pn, hd.sn, hd.n, hd.nn, Int.le_trans hd.h0 h0, h1⟩
theorem DaemonS.Ok.take {d : DaemonS} (hd : d.Ok) {h : Int} (hh : d.h = h) : (takeS d h).Ok := by
  have h0 := hd.h0
  have h1 := hd.h1
  unfold takeS
  split
  · exact ⟨hd.c, hd.k.adjust (by omega) (by omega), hd.p, hd.dr, hd.s, hd.pn, hd.sn, hd.n, hd.nn, by show h ≤ d.h; omega, h1⟩
  · exact hd
theorem DaemonS.Ok.peerSet {d : DaemonS} (hd : d.Ok) (i : Nat) {p : PeerS} (hp : p.Fit) : ({ d with ps := d.ps.set i p } : DaemonS).Ok :=
  ⟨hd.c, hd.k, fun q hq => (List.mem_or_eq_of_mem_set hq).elim (hd.p q) (fun e => e ▸ hp), hd.dr, hd.s, by simpa using hd.pn, hd.sn, hd.n, hd.nn, hd.h0, hd.h1⟩
theorem DaemonS.Ok.storeSet {d : DaemonS} (hd : d.Ok) (i : Nat) {l : List SampleS} (hl : l.length ≤ 8 ∧ ∀ x ∈ l, x.Ok) : ({ d with ss := d.ss.set i l } : DaemonS).Ok :=
  ⟨hd.c, hd.k, hd.p, hd.dr, fun q hq => (List.mem_or_eq_of_mem_set hq).elim (hd.s q) (fun e => e ▸ hl), hd.pn, by simpa using hd.sn, hd.n, hd.nn, hd.h0, hd.h1⟩
theorem DaemonS.Ok.peerAt {d : DaemonS} (hd : d.Ok) {i : Nat} (hi : i < d.c.srv.length) : (d.ps.getD i zeroPeer).Fit := by
  have : i < d.ps.length := by have := hd.pn; omega
  rw [List.getD_eq_getElem?_getD, List.getElem?_eq_getElem this, Option.getD_some]
  exact hd.p _ (List.getElem_mem _)
theorem DaemonS.Ok.storeAt {d : DaemonS} (hd : d.Ok) (i : Nat) : (d.ss.getD i []).length ≤ 8 ∧ ∀ x ∈ d.ss.getD i [], x.Ok := by
  rw [List.getD_eq_getElem?_getD]
  cases h : d.ss[i]? with
  | none => exact ⟨by simp, by simp⟩
  | some l => exact hd.s l (List.mem_of_getElem? h)
theorem DaemonS.Ok.hear {d : DaemonS} (hd : d.Ok) {h : Int} (hh : d.h = h) (a : Int) (l : List Nat) : (hearS d h a l).1.Ok := by
  have h0 := hd.h0
  have h1 := hd.h1
  have hk0 := hd.k.h0
  unfold hearS
  split
  · exact hd
  split
  · exact hd
  rename_i hne
  have hi : placeOf a d.c.srv < d.c.srv.length := by have := place_le a d.c.srv; omega
  have hkat := (hd.k.at (h := h) (by omega) (by omega)).fits
  simp only []
  split
  · exact hd.peerSet _ ((hd.peerAt hi).answer _ _ _ _ _ _)
  · rename_i x hx
    exact ((hd.peerSet _ ((hd.peerAt hi).answer _ _ _ _ _ _)).storeSet _ (storeAdd_ok (hd.storeAt _) (answer_ok ⟨by omega, by omega⟩ hkat.2.2.2 hx))).take hh
/-- No count is above. -/
def DaemonS.Cnt (d : DaemonS) (N : Int) : Prop := ∀ k, d.n.getD k 0 ≤ N
theorem bump_eq {d : DaemonS} (hd : d.Ok) {N : Int} (hc : d.Cnt N) (hN : N ≤ 9007199254740992) (why : Int) : bumpS d.n why = d.n.set why.toNat (d.n.getD why.toNat 0 + 1) := by
  have h0 := hd.nn why.toNat
  have h1 := hc why.toNat
  unfold bumpS
  rw [wrap_in ⟨by omega, by omega⟩]
theorem DaemonS.Ok.bump {d : DaemonS} (hd : d.Ok) {N : Int} (hc : d.Cnt N) (hN : N ≤ 9007199254740992) (why : Int) : ({ d with n := bumpS d.n why } : DaemonS).Ok ∧ ({ d with n := bumpS d.n why } : DaemonS).Cnt (N + 1) := by
  have e := bump_eq hd hc hN why
  have key : ∀ k, (d.n.set why.toNat (d.n.getD why.toNat 0 + 1)).getD k 0 = d.n.getD k 0 ∨ (d.n.set why.toNat (d.n.getD why.toNat 0 + 1)).getD k 0 = d.n.getD k 0 + 1 := by
    intro k
    simp only [List.getD_eq_getElem?_getD, List.getElem?_set]
    split
    · rename_i hk
      subst hk
      split
      · exact Or.inr rfl
      · exact Or.inl (by rename_i h; rw [List.getElem?_eq_none (by omega)])
    · exact Or.inl rfl
  refine ⟨⟨hd.c, hd.k, hd.p, hd.dr, hd.s, hd.pn, hd.sn, ?_, fun k => ?_, hd.h0, hd.h1⟩, fun k => ?_⟩
  · show (bumpS d.n why).length = 13
    rw [e, List.length_set]
    exact hd.n
  · show 0 ≤ (bumpS d.n why).getD k 0
    rw [e]
    have := hd.nn k
    rcases key k with h | h <;> omega
  · show (bumpS d.n why).getD k 0 ≤ N + 1
    rw [e]
    have := hc k
    rcases key k with h | h <;> omega
theorem DaemonS.Cnt.mono {d : DaemonS} {N M : Int} (hc : d.Cnt N) (h : N ≤ M) : d.Cnt M := fun k => Int.le_trans (hc k) h
theorem DaemonS.Ok.datagram {d : DaemonS} (hd : d.Ok) {h : Int} (hh : d.h = h) (a : Int) (l : List Nat) {N : Int} (hc : d.Cnt N) (hN : N ≤ 9007199254740992) : (datagramS d h a l).1.Ok ∧ (datagramS d h a l).1.Cnt (N + 1) :=
  (hd.hear hh a l).bump (N := N) (fun k => by rw [(hear_rest d h a l).1]; exact hc k) hN _
theorem askPs_fit {ps : List PeerS} (h : ∀ p ∈ ps, p.Fit) {t c : Int} {draw : Nat} (h0 : 0 ≤ t) (h1 : t ≤ maxHard) (hc : I64 c) (hk : draw < 18446744073709551616) : ∀ p ∈ askPs t c draw ps, p.Fit := by
  intro p hp
  obtain ⟨q, hq, rfl⟩ := List.mem_map.1 hp
  cases he : q.ask t c draw with
  | none => exact h q hq
  | some r => exact (h q hq).ask h0 h1 hc hk he
theorem drawOf_lt {d : DaemonS} (hd : d.Ok) {draw : Nat} (hk : draw < 18446744073709551616) : drawOf d draw < 18446744073709551616 := by
  unfold drawOf
  split
  · exact hd.dr
  · exact hk
theorem DaemonS.Ok.tick {d : DaemonS} (hd : d.Ok) {h : Int} (hh : d.h = h) {draw : Nat} (hk : draw < 18446744073709551616) : (tickS d h draw).1.Ok := by
  have h0 := hd.h0
  have h1 := hd.h1
  have hk0 := hd.k.h0
  have hkat := (hd.k.at (h := h) (by omega) (by omega)).fits
  have hdr := drawOf_lt hd hk
  refine ⟨hd.c, hd.k, askPs_fit (fun p hp => ?_) (by omega) (by unfold maxHard; omega) hkat.2.1 hdr, hdr, hd.s, ?_, hd.sn, hd.n, hd.nn, h0, h1⟩
  · obtain ⟨q, hq, rfl⟩ := List.mem_map.1 hp
    exact (show q.Fit from hd.p q hq).late h
  · show (askPs _ _ _ (d.ps.map _)).length = d.c.srv.length
    rw [← hd.pn]
    simp [askPs]
/-- An event may be, by its bounds. -/
structure EvS.Ok (e : EvS) : Prop where
  h : I64 e.h
  a : I64 e.addr
  k : I64 e.kind
  dr : e.draw < 18446744073709551616
  b : ∀ x ∈ e.data, x < 256
theorem err_none {d : DaemonS} {e : EvS} (h : errS d e = 0) : (e.kind = 0 ∨ e.kind = 1) ∧ 0 ≤ e.h ∧ e.h ≤ maxHard ∧ d.h ≤ e.h := by
  unfold errS at h
  repeat' split at h
  all_goals omega
theorem DaemonS.Ok.do {d : DaemonS} (hd : d.Ok) {e : EvS} (he : e.draw < 18446744073709551616) {N : Int} (hc : d.Cnt N) (hN : N ≤ 9007199254740992) : (doS d e).1.Ok ∧ (doS d e).1.Cnt (N + 1) := by
  unfold doS
  split
  · exact ⟨hd, hc.mono (by omega)⟩
  · rename_i h0
    obtain ⟨h1, h2, h3, h4⟩ := err_none (Decidable.of_not_not h0)
    have hw := hd.withH h4 h3
    split
    · exact ⟨hw.tick rfl he, fun k => Int.le_trans (hc k) (by omega)⟩
    · exact hw.datagram rfl _ _ (N := N) hc hN
theorem newS_ok {c : Cfg} (hc : checkC c = 0) {h clock : Int} (hn : newErr h clock = 0) : (newS c h clock).Ok ∧ (newS c h clock).Cnt 0 := by
  obtain ⟨⟨a1, a2⟩, ⟨a3, a4⟩, ⟨a5, a6⟩, ⟨a7, a8⟩, a9, a10⟩ := cfg_nums hc
  unfold newErr at hn
  split at hn
  · omega
  rename_i hb
  have hz : ∀ k, (List.replicate 13 (0 : Int)).getD k 0 = 0 := by
    intro k
    rw [List.getD_eq_getElem?_getD, List.getElem?_replicate]
    split <;> rfl
  unfold maxHard at hb
  refine ⟨⟨hc, ?_, ?_, by show (0 : Nat) < _; omega, ?_, by simp [newS], by simp [newS], by simp [newS], fun k => ?_, Int.le_refl _, by show h ≤ _; omega⟩, fun k => ?_⟩
  · show ClockS.Ok ⟨h, clock, 0, 0, c.s⟩
    constructor <;> simp only [] <;> omega
  · intro p hp
    have : p = newPeer c h := by
      obtain ⟨_, _, rfl⟩ := List.mem_map.1 hp
      rfl
    subst this
    exact ⟨newPeer_ok hc (by omega) (by omega), ⟨by simp [newPeer], by simp [newPeer]⟩, by simp [newPeer]⟩
  · intro l hl
    obtain ⟨_, _, rfl⟩ := List.mem_map.1 hl
    exact ⟨by simp, by simp⟩
  · show 0 ≤ (List.replicate 13 (0 : Int)).getD k 0
    rw [hz]
    exact Int.le_refl _
  · show (List.replicate 13 (0 : Int)).getD k 0 ≤ 0
    rw [hz]
    exact Int.le_refl _
end Go.Proofs.YtpjfiplejhbdfaaGreatDoor

namespace Go.Proofs.YtpjfiplejhbdfaaGreatDoor
set_option linter.unusedSimpArgs false
open Go.RowKit

theorem ansV_eq (r : PeerS × Option SampleS × Int) : ansV r = .tuple #[(r.2.1.getD zeroS).val, .int .i64 r.2.2] := by
  obtain ⟨a, b, c⟩ := r
  cases b <;> rfl
theorem srv_le {c : Cfg} (hc : checkC c = 0) : c.srv.length ≤ 16 := (check_fine hc).few
theorem DO.stores {w : World} {P : DPl} {d : DaemonS} (h : DO w P d) (hok : d.Ok) : ∃ p c, P.sv = .slice p P.ss.length c ∧ StoresAt w p P.ss := by
  have hlp : (P.ss.map fun s => at0 s.b).length = P.ss.length := by simp
  have hrow := h.srow
  rw [← hlp] at hrow
  have heach : ∀ s ∈ P.ss, StoreO w s.b s.rb s.sl s.xs ∧ s.xs.length ≤ 8 ∧ ∀ x ∈ s.xs, x.Ok := fun s hs => ⟨h.store s hs, hok.s s.xs (by rw [← h.sxs]; exact List.mem_map_of_mem hs)⟩
  rcases hrow.2 with ⟨h0, h1⟩ | ⟨g, cap, cur, hv, _⟩
  · have he : P.ss = [] := by rw [hlp] at h1; exact List.length_eq_zero_iff.1 h1
    exact ⟨none, 0, by rw [h0, he]; rfl, ⟨fun j s hj => by rw [he] at hj; simp at hj, heach⟩⟩
  · refine ⟨_, cap, by rw [hv, hlp], ⟨fun j s hj => ?_, heach⟩⟩
    obtain ⟨g', c', hv', hc⟩ := ptr_cell hrow (i := j) (x := at0 s.b) (by simp [hj])
    rw [hv] at hv'
    cases hv'
    exact ⟨_, rfl, hc⟩
/-- Peer i's pointer. -/
theorem DO.peerCell {w : World} {P : DPl} {d : DaemonS} (h : DO w P d) {i : Nat} {bb : Nat × Nat} (hbb : P.pbs[i]? = some bb) : ∃ g c, P.pv = .slice (some ⟨g, 0, none⟩) d.ps.length c ∧ w.cell? ⟨g, i, none⟩ = some (at0 bb.1) := by
  have hrow := h.prow
  have hlp : (P.pbs.map fun x => at0 x.1).length = P.pbs.length := by simp
  rw [← hlp] at hrow
  obtain ⟨g, pc, hv, hcell⟩ := ptr_cell hrow (i := i) (x := at0 bb.1) (by simp [hbb])
  rw [hlp, h.pn] at hv
  exact ⟨g, pc, hv, hcell⟩
theorem DO.storeCell {w : World} {P : DPl} {d : DaemonS} (h : DO w P d) {i : Nat} {s : StP} (hs : P.ss[i]? = some s) : ∃ g c, P.sv = .slice (some ⟨g, 0, none⟩) P.ss.length c ∧ w.cell? ⟨g, i, none⟩ = some (at0 s.b) := by
  have hrow := h.srow
  have hlp : (P.ss.map fun s => at0 s.b).length = P.ss.length := by simp
  rw [← hlp] at hrow
  obtain ⟨g, pc, hv, hcell⟩ := ptr_cell hrow (i := i) (x := at0 s.b) (by simp [hs])
  rw [hlp] at hv
  exact ⟨g, pc, hv, hcell⟩
/-- A sample more in store i. -/
theorem DO.addStore {w : World} {P : DPl} {d : DaemonS} (hd : DO w P d) (hok : d.Ok) {i : Nat} {s : StP} (hs : P.ss[i]? = some s) (x : SampleS) :
    Calls Tryz.prog 119 #[at0 s.b, x.val] w fun e w' => (∃ r, e = .returned r) ∧ ∃ P', DO w' P' { d with ss := d.ss.set i (storeAdd (d.ss.getD i []) x) } ∧ DTo P P' w w' := by
  have hmem := List.mem_of_getElem? hs
  have h0 := hd.store s hmem
  have hx : d.ss.getD i [] = s.xs := by
    rw [← hd.sxs, List.getD_eq_getElem?_getD, List.getElem?_map, hs]
    rfl
  obtain ⟨c0, _, hrb⟩ := h0.ring.blk
  have hl : s.xs.length ≤ 8 := (hok.s s.xs (by rw [← hd.sxs]; exact List.mem_map_of_mem hmem)).1
  rw [hx]
  refine (fadd_any s.b s.rb s.sl s.xs x w h0 hl (ne_type h0.blk hrb (by decide)) (fun g hg => ?_)).mono ?_
  · obtain ⟨cur, hcur⟩ := own_block h0.ring.row hg
    exact ne_type hcur h0.blk (by decide)
  · rintro e w' ⟨hr, sl', hk, hm, hown⟩
    exact ⟨hr, _, hd.storeSet hs hm hk hown, .storeSet hs hm hown⟩
/-- The clock is adjusted. -/
theorem DO.adjust {w : World} {P : DPl} {d : DaemonS} (hd : DO w P d) (hok : d.Ok) {h : Int} (hh : d.h = h) (v : Int) :
    Calls Tryz.prog 121 #[at0 P.bk, .int .i64 h, .int .i64 v] w fun e w' => e = .returned (.int .i64 0) ∧ DO w' P { d with k := d.k.adjust h v } ∧ Mod (· = P.bk) w w' := by
  refine (kadjust_any P.bk d.k hok.k h v (by have := hok.h0; omega) (by have := hok.h1; omega) w hd.clk).mono ?_
  rintro e w' ⟨rfl, hk, hm⟩
  exact ⟨rfl, hd.clock hm hk, hm⟩
/-- The votes of a daemon's stores. -/
theorem DO.votes {w : World} {P : DPl} {d : DaemonS} (hd : DO w P d) (h life slewed : Int) : votesTo P.ss h life slewed P.ss.length = votesS d.ss h life slewed := by
  unfold votesTo
  rw [List.take_length, hd.sxs]
/-- Peer i is told how late it is. -/
theorem DO.late {w : World} {P : DPl} {d : DaemonS} (hd : DO w P d) {i : Nat} {bb : Nat × Nat} {p : PeerS} (hbb : P.pbs[i]? = some bb) (hpe : d.ps[i]? = some p) (hp : p.Fit) (h : Int) :
    Calls Tryz.prog 77 #[at0 bb.1, .int .i64 h] w fun e w' => (∃ x, e = .returned x) ∧ DO w' P { d with ps := d.ps.set i (p.late h) } ∧ Mod (fun k => k = bb.1 ∨ k = bb.2) w w' := by
  refine (plated_any bb.1 bb.2 p hp.1 h w (hd.peer i bb p hbb hpe)).mono ?_
  rintro e w' ⟨hx, hpo, hm⟩
  exact ⟨hx, hd.peerSet hbb hpe hm hpo, hm⟩
/-- Peer i isn't asked. -/
theorem DO.askNo {w : World} {P : DPl} {d : DaemonS} (hd : DO w P d) {i : Nat} {bb : Nat × Nat} {p : PeerS} (hbb : P.pbs[i]? = some bb) (hpe : d.ps[i]? = some p) (h clock : Int) (ck : Nat) (h0 : 0 ≤ h) (h1 : h ≤ 4611686018427387903) (hn : p.ask h clock ck = none) :
    Calls Tryz.prog 78 #[at0 bb.1, .int .i64 h, .int .i64 clock, .int .u64 (ck : Int)] w fun e w' => (∃ er : Int, er ≠ 0 ∧ e = .returned (.tuple #[.slice none 0 0, .int .i64 er])) ∧ w = w' :=
  pask_no bb.1 bb.2 p h clock ck h0 h1 w (hd.peer i bb p hbb hpe).pb hn
/-- Peer i is asked. -/
theorem DO.askYes {w : World} {P : DPl} {d : DaemonS} (hd : DO w P d) {i : Nat} {bb : Nat × Nat} {p q : PeerS} (hbb : P.pbs[i]? = some bb) (hpe : d.ps[i]? = some p) (h clock : Int) (ck : Nat) (h0 : 0 ≤ h) (h1 : h ≤ 4611686018427387903) (hck : ck < 18446744073709551616) (hy : p.ask h clock ck = some q) :
    Calls Tryz.prog 78 #[at0 bb.1, .int .i64 h, .int .i64 clock, .int .u64 (ck : Int)] w fun e w' =>
      ∃ v, e = .returned (.tuple #[v, .int .i64 0]) ∧ w'.ownsRow w.heap.size 5 1 v (queryP ck).bytes.length (bcells (queryP ck).bytes) ∧ DO w' P { d with ps := d.ps.set i q } ∧ Mod (fun k => k = bb.1 ∨ k = bb.2) w w' := by
  have h2 := hd.peer i bb p hbb hpe
  have hne := h2.ne
  refine (pask_yes bb.1 bb.2 p q h clock ck h0 h1 hck w h2.pb hy).mono ?_
  rintro e w' ⟨v, rfl, hown, hb, hm⟩
  have hm2 : Mod (fun k => k = bb.1 ∨ k = bb.2) w w' := hm.mono (fun _ _ h => Or.inl h)
  obtain ⟨t, ht⟩ := h2.bo
  have hq : q.l = p.l ∧ q.m = p.m ∧ q.n = p.n ∧ q.t = p.t := by
    unfold PeerS.ask at hy
    split at hy
    · cases hy; exact ⟨rfl, rfl, rfl, rfl⟩
    · cases hy
  refine ⟨v, rfl, hown, hd.peerSet hbb hpe hm2 ⟨hb, t, ?_⟩, hm2⟩
  have h3 := hm.heap ht (fun e => hne e.symm)
  obtain ⟨q1, q2, q3, q4⟩ := hq
  rw [q1, q2, q3]
  first | exact h3 | (rw [q4]; exact h3)
/-- When peer i wants something. -/
theorem DO.next {w : World} {P : DPl} {d : DaemonS} (hd : DO w P d) {i : Nat} {bb : Nat × Nat} {p : PeerS} (hbb : P.pbs[i]? = some bb) (hpe : d.ps[i]? = some p) (hp : p.Fit) :
    Calls Tryz.prog 42 #[at0 bb.1] w fun e w' => e = .returned (.int .i64 p.next) ∧ Mod NoB w w' :=
  pnext_any bb.1 bb.2 p hp.1 w (hd.peer i bb p hbb hpe).pb
end Go.Proofs.YtpjfiplejhbdfaaGreatDoor

namespace Go.Proofs.YtpjfiplejhbdfaaGreatDoor
set_option linter.unusedSimpArgs false
open Go.RowKit

/-- The first k of them turned. -/
def mapTo (f : PeerS → PeerS) (ps : List PeerS) (k : Nat) : List PeerS := (ps.take k).map f ++ ps.drop k
theorem mapTo_zero (f : PeerS → PeerS) (ps : List PeerS) : mapTo f ps 0 = ps := by simp [mapTo]
theorem mapTo_all (f : PeerS → PeerS) (ps : List PeerS) : mapTo f ps ps.length = ps.map f := by simp [mapTo]
theorem mapTo_get {f : PeerS → PeerS} {ps : List PeerS} {k : Nat} {p : PeerS} (h : ps[k]? = some p) : (mapTo f ps k)[k]? = some p := by
  have hlt : k < ps.length := (List.getElem?_eq_some_iff.1 h).1
  unfold mapTo
  rw [List.getElem?_append_right (by simp; omega)]
  simp only [List.length_map, List.length_take, List.getElem?_drop]
  rw [show k + (k - min k ps.length) = k by omega]
  exact h
theorem mapTo_set {f : PeerS → PeerS} {ps : List PeerS} {k : Nat} {p : PeerS} (h : ps[k]? = some p) : (mapTo f ps k).set k (f p) = mapTo f ps (k + 1) := by
  have hlt : k < ps.length := (List.getElem?_eq_some_iff.1 h).1
  have hp : ps[k] = p := (List.getElem?_eq_some_iff.1 h).2
  unfold mapTo
  rw [List.set_append_right _ _ (by simp; omega), List.take_add_one, h, List.drop_eq_getElem_cons hlt]
  simp only [List.length_map, List.length_take]
  rw [show k - min k ps.length = 0 by omega, hp]
  simp
/-- What is sent to the first k. -/
def sendsTo (h c : Int) (draw : Nat) (ps : List PeerS) (srv : List Int) (k : Nat) : List (Int × List Nat) :=
  ((ps.zip srv).take k).filterMap fun x => (x.1.ask h c draw).map fun _ => (x.2, (queryP draw).bytes)
theorem sendsTo_zero (h c : Int) (draw : Nat) (ps : List PeerS) (srv : List Int) : sendsTo h c draw ps srv 0 = [] := rfl
theorem sendsTo_all (h c : Int) (draw : Nat) (ps : List PeerS) (srv : List Int) (hl : ps.length = srv.length) : sendsTo h c draw ps srv ps.length = askSends h c draw ps srv := by
  unfold sendsTo askSends
  rw [List.take_of_length_le (by simp; omega)]
theorem sendsTo_len (h c : Int) (draw : Nat) (ps : List PeerS) (srv : List Int) (k : Nat) : (sendsTo h c draw ps srv k).length ≤ k := by
  unfold sendsTo
  refine Nat.le_trans (List.length_filterMap_le _ _) ?_
  simp
  omega
theorem sendsTo_none {h c : Int} {draw : Nat} {ps : List PeerS} {srv : List Int} {k : Nat} {p : PeerS} {s : Int} (hp : ps[k]? = some p) (hs : srv[k]? = some s) (ha : p.ask h c draw = none) : sendsTo h c draw ps srv (k + 1) = sendsTo h c draw ps srv k := by
  unfold sendsTo
  have : (ps.zip srv)[k]? = some (p, s) := by simp [List.getElem?_zip_eq_some, hp, hs]
  rw [List.take_add_one, this]
  simp [List.filterMap_append, ha]
theorem sendsTo_some {h c : Int} {draw : Nat} {ps : List PeerS} {srv : List Int} {k : Nat} {p q : PeerS} {s : Int} (hp : ps[k]? = some p) (hs : srv[k]? = some s) (ha : p.ask h c draw = some q) : sendsTo h c draw ps srv (k + 1) = sendsTo h c draw ps srv k ++ [(s, (queryP draw).bytes)] := by
  unfold sendsTo
  have : (ps.zip srv)[k]? = some (p, s) := by simp [List.getElem?_zip_eq_some, hp, hs]
  rw [List.take_add_one, this]
  simp [List.filterMap_append, ha]
/-- Sends' cells, by the values of their data. -/
def sendCells (L : List (Int × List Nat)) (vs : List Value) : List Value := (L.zip vs).flatMap fun x => [.int .i64 x.1.1, x.2]
theorem sendCells_snoc {L : List (Int × List Nat)} {vs : List Value} (hl : vs.length = L.length) (x : Int × List Nat) (u : Value) : sendCells (L ++ [x]) (vs ++ [u]) = sendCells L vs ++ [.int .i64 x.1, u] := by
  unfold sendCells
  rw [List.zip_append hl.symm]
  simp
theorem sendCells_len {L : List (Int × List Nat)} {vs : List Value} (hl : vs.length = L.length) : (sendCells L vs).length = L.length * 2 := by
  have key : ∀ (M : List ((Int × List Nat) × Value)), (M.flatMap fun x => [Value.int .i64 x.1.1, x.2]).length = M.length * 2 := by
    intro M
    induction M with
    | nil => rfl
    | cons y M ih => simp at ih ⊢; omega
  unfold sendCells
  rw [key]
  simp [hl]
/-- Where sends lie: all of it from base on. -/
def SendsAt (w : World) (base : Nat) (v : Value) (L : List (Int × List Nat)) : Prop :=
  ∃ vs : List Value, vs.length = L.length ∧ w.ownsRow base 48 2 v L.length (sendCells L vs) ∧ ∀ (i : Nat) (x : Int × List Nat) (u : Value), L[i]? = some x → vs[i]? = some u → w.ownsRow base 5 1 u x.2.length (bcells x.2)
theorem SendsAt.nil (w : World) (base : Nat) : SendsAt w base (.slice none 0 0) [] := ⟨[], rfl, ⟨rfl, Or.inl ⟨rfl, rfl⟩⟩, fun i x u h => by simp at h⟩
theorem own_from {w : World} {base size n : Nat} {e : TypeId} {v : Value} {xs : List Value} (h : w.ownsRow base e size v n xs) {g : Nat} (hg : v.ownBlock = some g) : base ≤ g := by
  rcases h.2 with ⟨h0, _⟩ | ⟨g', cap, cur, h0, hb, _⟩
  · rw [h0] at hg; cases hg
  · rw [h0] at hg; cases hg; exact hb
theorem SendsAt.mod {S : Nat → Prop} {w w' : World} {base : Nat} {v : Value} {L : List (Int × List Nat)} (h : SendsAt w base v L) (hm : Mod S w w') (hS : ∀ k, base ≤ k → ¬ S k) : SendsAt w' base v L := by
  obtain ⟨vs, hl, hr, hd⟩ := h
  exact ⟨vs, hl, ownsRow_mod2 hr hm (fun g hg => hS g (own_from hr hg)), fun i x u hx hu => ownsRow_mod2 (hd i x u hx hu) hm (fun g hg => hS g (own_from (hd i x u hx hu) hg))⟩
theorem SendsAt.slice {w : World} {base : Nat} {v : Value} {L : List (Int × List Nat)} (h : SendsAt w base v L) : ∃ p c, v = .slice p L.length c := by
  obtain ⟨vs, hl, hr, hd⟩ := h
  obtain ⟨p, c, h⟩ := own_value hr
  exact ⟨p, c, h⟩
end Go.Proofs.YtpjfiplejhbdfaaGreatDoor

