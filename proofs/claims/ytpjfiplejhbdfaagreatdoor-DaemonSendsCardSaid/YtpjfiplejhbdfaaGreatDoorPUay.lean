/- daemon.tick (contract). daemon.hear (contract): of a server of the config. -/
import Derived.Test.YtpjfiplejhbdfaaGreatDoorPUax
import Derived.StillTailTactics
import Derived.Deep.DeepCutAuto
import Derived.Deep.RegionHeld3
namespace Go.Proofs.YtpjfiplejhbdfaaGreatDoor
set_option linter.unusedSimpArgs false
open Go.RowKit

theorem infoSend : (Tryz.prog.info? 48).map (fun i => (i.zero, i.size, i.bytes)) = some (some (.agg #[.int .i64 0, .slice none 0 0]), 2, 32) := by kernel_rfl
theorem own_lower {w : World} {base base' size n : Nat} {e : TypeId} {v : Value} {xs : List Value} (h : w.ownsRow base e size v n xs) (hb : base' ≤ base) : w.ownsRow base' e size v n xs := by
  refine ⟨h.1, ?_⟩
  rcases h.2 with h0 | ⟨g, cap, cur, e1, e2, e3⟩
  · exact Or.inl h0
  · exact Or.inr ⟨g, cap, cur, e1, Nat.le_trans hb e2, e3⟩
theorem SendsAt.lower {w : World} {base base' : Nat} {v : Value} {L : List (Int × List Nat)} (h : SendsAt w base v L) (hb : base' ≤ base) : SendsAt w base' v L := by
  obtain ⟨vs, hl, hr, hd⟩ := h
  exact ⟨vs, hl, own_lower hr hb, fun i x u hx hu => own_lower (hd i x u hx hu) hb⟩
/-- A tick's two boxes, what is sent so far, the daemon. -/
structure TickAt (P : DPl) (w : World) (ev : Obj) (v : Value) (L : List (Int × List Nat)) (d1 : DaemonS) (wx : World) : Prop where
  ev : wx.heap[w.heap.size]? = some ev
  out : wx.heap[w.heap.size + 1]? = some (.cells #[v, .int .i64 0, .int .i64 0, .int .i64 0] 44 (0, 0))
  d : DO wx P d1
  t : DTo P P w wx
  s : SendsAt wx (w.heap.size + 2) v L
theorem TickAt.quiet {P : DPl} {w wx wy : World} {ev : Obj} {v : Value} {L : List (Int × List Nat)} {d1 : DaemonS} (h : TickAt P w ev v L d1 wx) (hm : Mod NoB wx wy) : TickAt P w ev v L d1 wy :=
  ⟨hm.heap h.ev id, hm.heap h.out id, h.d.quiet hm, h.t.thenQ hm, h.s.mod hm (fun _ _ => id)⟩
theorem TickAt.turn {P : DPl} {w wx wy : World} {ev : Obj} {v : Value} {L : List (Int × List Nat)} {d1 d2 : DaemonS} (h : TickAt P w ev v L d1 wx) {S : Nat → Prop} (hm : Mod S wx wy) (hS : ∀ k, S k → fpD P k ∧ k < w.heap.size) (hd : DO wy P d2) : TickAt P w ev v L d2 wy :=
  ⟨hm.heap h.ev (fun s => by have := (hS _ s).2; omega), hm.heap h.out (fun s => by have := (hS _ s).2; omega), hd, h.t.trans (.of hm fun k s => (hS k s).1), h.s.mod hm (fun k hk s => by have := (hS _ s).2; omega)⟩
/-- What is sent, one more. -/
theorem TickAt.more {P : DPl} {w wx wy : World} {ev : Obj} {v v' : Value} {L L' : List (Int × List Nat)} {d1 : DaemonS} (h : TickAt P w ev v L d1 wx) (hm : Mod (fun k => v.ownBlock = some k) wx wy) (hs : SendsAt wy (w.heap.size + 2) v' L') (hv : ∀ g, v.ownBlock = some g → w.heap.size + 2 ≤ g) (hlt : ∀ k, fpD P k → k < w.heap.size) :
    TickAt P w ev v' L' d1 (wy.setCell ⟨w.heap.size + 1, 0, none⟩ v') := by
  have ho := hm.heap h.out (fun s => by have := hv _ s; omega)
  have hm2 : Mod (fun k => k = w.heap.size + 1) wy (wy.setCell ⟨w.heap.size + 1, 0, none⟩ v') := (Mod.refl _ _).set1 _ _
  have hmm : Mod (fun k => w.heap.size + 1 ≤ k) wx (wy.setCell ⟨w.heap.size + 1, 0, none⟩ v') := (hm.mono fun k _ s => by have := hv k s; omega).trans (hm2.mono fun k _ s => by omega)
  refine ⟨hmm.heap h.ev (by omega), ?_, h.d.apart hmm (fun k hk hf => by have := hlt k hf; omega), ?_, hs.mod hm2 (fun k hk s => by omega)⟩
  · rw [heap_setCell_eq ho]
    simp
  · exact ⟨h.t.b, ⟨hmm.os.trans h.t.m.os, hmm.tape.trans h.t.m.tape, hmm.output.trans h.t.m.output, Nat.le_trans h.t.m.size hmm.size, fun k hk hn => (hmm.block k (Nat.lt_of_lt_of_le hk h.t.m.size) (by omega)).trans (h.t.m.block k hk hn)⟩, h.t.f⟩
/-- A daemon's blocks are there. -/
theorem DO.lt {w : World} {P : DPl} {d : DaemonS} (h : DO w P d) : ∀ k, fpD P k → k < w.heap.size := by
  intro k hk
  rcases hk with rfl | rfl | hk | hk | rfl | rfl | rfl | hk | hk | hk | ⟨off, hk⟩
  · exact lt_of_block h.blk
  · exact lt_of_block h.clk
  · obtain ⟨x, hx, hk⟩ := hk
    obtain ⟨i, hi⟩ := List.mem_iff_getElem?.1 hx
    have hlt : i < d.ps.length := by rw [← h.pn]; exact (List.getElem?_eq_some_iff.1 hi).1
    have hp := h.peer i x d.ps[i] hi (by simp [hlt])
    obtain ⟨t, hb⟩ := hp.bo
    rcases hk with rfl | rfl
    · exact lt_of_block hp.pb
    · exact lt_of_block hb
  · obtain ⟨s, hs, hk⟩ := hk
    have hst := h.store s hs
    obtain ⟨c0, _, hrb⟩ := hst.ring.blk
    rcases hk with rfl | rfl | hk
    · exact lt_of_block hst.blk
    · exact lt_of_block hrb
    · obtain ⟨cur, hcur⟩ := own_block hst.ring.row hk
      exact lt_of_block hcur
  · obtain ⟨L, hq, _⟩ := h.que
    obtain ⟨n, hn⟩ := hq.blk
    exact lt_of_block hn
  · obtain ⟨L, hq, _⟩ := h.que
    exact lt_of_block hq.map
  · exact lt_of_block h.cnt.1
  · obtain ⟨cur, hcur⟩ := own_block h.prow hk
    exact lt_of_block hcur
  · obtain ⟨cur, hcur⟩ := own_block h.srow hk
    exact lt_of_block hcur
  · obtain ⟨cur, hcur⟩ := own_block h.vrow hk
    exact lt_of_block hcur
  · have := h.srvl k off hk
    have := h.lts
    omega
def TickPost (P : DPl) (d : DaemonS) (L : List (Int × List Nat)) (w : World) (e : Ending) (w' : World) : Prop :=
  ∃ v, e = .returned (.agg #[v, .int .i64 0, .int .i64 0, .int .i64 0]) ∧ DO w' P d ∧ DTo P P w w' ∧ SendsAt w' (w.heap.size + 2) v L
end Go.Proofs.YtpjfiplejhbdfaaGreatDoor

namespace Go.Proofs.YtpjfiplejhbdfaaGreatDoor
set_option linter.unusedSimpArgs false
open Go.RowKit

theorem box_keep {S : Nat → Prop} {w w9 : World} {c : Array Value} {t : TypeId} (hm : Mod S (w.alloc (.cells c t)).drew w9) (hS : ∀ k, S k → k < w.heap.size) : w9.heap[w.heap.size]? = some (.cells c t (0, 0)) :=
  hm.heap (heap_alloc_new w (.cells c t)) (fun s => Nat.lt_irrefl _ (hS _ s))
theorem four_of {w : World} {b : Nat} {t : TypeId} {c0 c1 c2 c3 : Value} (h : w.heap[b]? = some (.cells #[c0, c1, c2, c3] t (0, 0))) :
    w.cell? ⟨b, 0, none⟩ = some c0 ∧ w.cell? ⟨b, 1, none⟩ = some c1 ∧ w.cell? ⟨b, 2, none⟩ = some c2 ∧ w.cell? ⟨b, 3, none⟩ = some c3 ∧
    w.frozen? ⟨b, 0, none⟩ = false ∧ w.frozen? ⟨b, 1, none⟩ = false ∧ w.frozen? ⟨b, 2, none⟩ = false ∧ w.frozen? ⟨b, 3, none⟩ = false :=
  ⟨cell_of_block h 0 rfl, cell_of_block h 1 rfl, cell_of_block h 2 rfl, cell_of_block h 3 rfl, frozen_of_block h 0, frozen_of_block h 1, frozen_of_block h 2, frozen_of_block h 3⟩
theorem Mod.set4x {S : Nat → Prop} {a w : World} {g : Nat} (h : Mod S a w) (hg : S g ∨ a.heap.size ≤ g) (a0 a1 a2 a3 : Value) :
    Mod S a ((((w.setCell ⟨g, 0, none⟩ a0).setCell ⟨g, 1, none⟩ a1).setCell ⟨g, 2, none⟩ a2).setCell ⟨g, 3, none⟩ a3) :=
  (((h.setCell hg _).setCell hg _).setCell hg _).setCell hg _
/-- What hear leaves. -/
def HearPost (P : DPl) (d : DaemonS) (r : Int) (w : World) (e : Ending) (w' : World) : Prop := e = .returned (.int .i64 r) ∧ ∃ P', DO w' P' d ∧ DTo P P' w w'
/-- Behind the answer: the sample's box, the event's box, the daemon. -/
structure HearCut (P : DPl) (d1 : DaemonS) (w : World) (ev : Obj) (xs : SampleS) (r3 : Int) (s10 s11 : Value) (wx : World) : Prop where
  ex : ∃ sb, s10 = at0 sb ∧ s11 = .int .i64 r3 ∧ w.heap.size < sb ∧ wx.heap[sb]? = some (.cells xs.cells.toArray 185 (0, 0))
  ev : wx.heap[w.heap.size]? = some ev
  d : DO wx P d1
  t : DTo P P w wx
set_option maxRecDepth 100000 in
set_option maxHeartbeats 8000000 in
theorem hear_at (P : DPl) (d : DaemonS) (hok : d.Ok) (k h a : Int) (hdh : d.h = h) (draw bd off c : Nat) (l : List Nat) (hn : 48 ≤ l.length) (hlc : l.length ≤ c) (hcp : c ≤ 9223372036854775807) (w : World) (hd : DO w P d) (hdt : BytesAt w bd off l)
    (i : Nat) (hi : placeOf a d.c.srv = i) (hil : i < d.c.srv.length) :
    Calls Tryz.prog 79 #[at0 P.b, evV k h a draw (.slice (some ⟨bd, off, none⟩) l.length c)] w (HearPost P (hearS d h a l).1 (hearS d h a l).2 w) := by
  have hl : d.c.srv.length ≤ 1000 := by have := srv_le hok.c; omega
  have hh1 : h ≤ 4611686018427387903 := by have := hok.h1; omega
  have hk0 := hok.k.h0
  have hh0 : d.k.h ≤ h := by have := hok.h0; omega
  have hh : I64 h := ⟨by omega, by omega⟩
  have hat : atR d.k h = (d.k.at h, 0) := by
    unfold atR
    rw [if_neg (by omega), if_neg (by omega)]
  have hlt : i < d.ps.length := by have := hok.pn; omega
  obtain ⟨p, hpe⟩ : ∃ p, d.ps[i]? = some p := ⟨d.ps[i], by simp [hlt]⟩
  obtain ⟨bb, hbb⟩ : ∃ bb, P.pbs[i]? = some bb := ⟨P.pbs[i]'(by rw [hd.pn]; exact hlt), by simp [hd.pn, hlt]⟩
  have hpg : d.ps.getD i zeroPeer = p := by simp [List.getD, hpe]
  have hix : ∀ w2, Mod NoB w w2 → Calls Tryz.prog 93 #[.slice P.sp d.c.srv.length P.sc, .int .i64 a] w2 fun e w' => e = .returned (.int .i64 (i : Int)) ∧ w2 = w' := fun w2 hm => by
    have := index_any P.sp P.sc d.c.srv hl a w2 (hd.srv.mod0 hm)
    rw [if_neg (by omega), hi] at this
    exact this
  have hrd : ∀ w2, Mod NoB w w2 → Calls Tryz.prog 46 #[at0 P.bk, .int .i64 h] w2 fun e w' => e = .returned (.tuple #[.int .i64 (d.k.at h).c, .int .i64 0]) ∧ Mod NoB w2 w' := fun w2 hm => by
    have := kread_any P.bk d.k hok.k h hh w2 (hd.quiet hm).clk
    rw [hat] at this
    exact this
  have hsl : ∀ w2, Mod NoB w w2 → Calls Tryz.prog 117 #[at0 P.bk, .int .i64 h] w2 fun e w' => e = .returned (.tuple #[.int .i64 (d.k.at h).all, .int .i64 0]) ∧ Mod NoB w2 w' := fun w2 hm => by
    have := kslewed_any P.bk d.k hok.k h hh w2 (hd.quiet hm).clk
    rw [hat] at this
    exact this
  have hkat := (hok.k.at hh0 hh1).fits
  have hck : I64 (d.k.at h).c := hkat.2.1
  have hpf : p.Fit := hok.p p (List.mem_of_getElem? hpe)
  have han := fun w2 (hm : Mod NoB w w2) => (hd.quiet hm).answer hbb hpe hpf h (d.k.at h).c (d.k.at h).all hck bd off c l hn hlc hcp (hdt.mod hm id)
  have hok1 : ({ d with ps := d.ps.set i (p.answer h (d.k.at h).c (d.k.at h).all (lookR l p.cookie) (pktOf l).recv (pktOf l).xmit).1 } : DaemonS).Ok := hok.peerSet i (hpf.answer _ _ _ _ _ _)
  obtain ⟨g, pc, hv, hcell⟩ := hd.peerCell hbb
  have k0 := cell_of_block hd.blk 0 rfl
  have k6 := cell_of_block hd.blk 6 rfl
  have k7 := cell_of_block hd.blk 7 (v := P.pv) rfl
  rw [hv] at k7
  have hpo := hd.peer i bb p hbb hpe
  obtain ⟨tb, hbo⟩ := hpo.bo
  have hpb := hpo.pb
  unfold PB at hpb
  have n1 : ¬ (P.b = bb.1 ∨ P.b = bb.2) := by
    rintro (e | e)
    · exact ne_type hd.blk hpb (by decide) e
    · exact ne_type hd.blk hbo (by decide) e
  obtain ⟨cur, hcur⟩ := own_block hd.prow (g := g) (by rw [hv]; rfl)
  have n2 : ¬ (g = bb.1 ∨ g = bb.2) := by
    rintro (e | e)
    · exact ne_type hcur hpb (by decide) e
    · exact ne_type hcur hbo (by decide) e
  have n3 : ¬ (w.heap.size = bb.1 ∨ w.heap.size = bb.2) := by
    have h1 := lt_of_block hpb
    have h2 := lt_of_block hbo
    omega
  clear hpo hpb hbo hcur
  have hlb := lt_of_block hd.blk
  have hii : (i : Int) < d.ps.length := by omega
  have hni : ¬ ((i : Int) < 0) := by omega
  have h48 : ¬ ((l.length : Int) < 48) := by omega
  -- what hear comes to
  have hfin : hearS d h a l = match (p.answer h (d.k.at h).c (d.k.at h).all (lookR l p.cookie) (pktOf l).recv (pktOf l).xmit).2.1 with
      | none => ({ d with ps := d.ps.set i (p.answer h (d.k.at h).c (d.k.at h).all (lookR l p.cookie) (pktOf l).recv (pktOf l).xmit).1 }, (p.answer h (d.k.at h).c (d.k.at h).all (lookR l p.cookie) (pktOf l).recv (pktOf l).xmit).2.2)
      | some x => (takeS { d with ps := d.ps.set i (p.answer h (d.k.at h).c (d.k.at h).all (lookR l p.cookie) (pktOf l).recv (pktOf l).xmit).1, ss := d.ss.set i (storeAdd (d.ss.getD i []) x) } h, (p.answer h (d.k.at h).c (d.k.at h).all (lookR l p.cookie) (pktOf l).recv (pktOf l).xmit).2.2) := by
    unfold hearS
    rw [if_neg (by omega), if_neg (by omega)]
    simp only [hi, hpg]
    first | rfl | (split <;> rfl)
  have hsok : ∀ x, (p.answer h (d.k.at h).c (d.k.at h).all (lookR l p.cookie) (pktOf l).recv (pktOf l).xmit).2.1 = some x → x.Ok := fun x hx => answer_ok hh hkat.2.2.2 hx
  have hnn := answer_none p h (d.k.at h).c (d.k.at h).all (lookR l p.cookie) (pktOf l).recv (pktOf l).xmit
  generalize hr : p.answer h (d.k.at h).c (d.k.at h).all (lookR l p.cookie) (pktOf l).recv (pktOf l).xmit = r at *
  have hsv := ansV_eq r
  obtain ⟨r1, r2, r3⟩ := r
  generalize hxs : r2.getD zeroS = xs at hsv
  simp only [hxs] at hsv hnn hfin hsok han hok1
  generalize hd1 : ({ d with ps := d.ps.set i r1 } : DaemonS) = d1 at *
  have hfN : r3 ≠ 0 → hearS d h a l = (d1, r3) := fun h3 => by
    have := hnn.2 h3
    subst this
    rw [hfin]
  have hfS : r3 = 0 → xs.Ok ∧ hearS d h a l = (takeS { d1 with ss := d1.ss.set i (storeAdd (d1.ss.getD i []) xs) } h, 0) := fun h3 => by
    cases r2 with
    | none => exact absurd h3 (hnn.1 rfl)
    | some x =>
      have hx : x = xs := hxs
      subst hx
      refine ⟨hsok x rfl, ?_⟩
      rw [hfin, h3, ← hd1]
  have hcd : d1.c = d.c ∧ d1.k = d.k ∧ d1.h = h ∧ d1.chosen = d.chosen ∧ d1.draw = d.draw := by rw [← hd1]; exact ⟨rfl, rfl, hdh, rfl, rfl⟩
  generalize hZ : hearS d h a l = Z at hfN hfS ⊢
  have hIb : ∀ k, k = bb.1 ∨ k = bb.2 → fpD P k := fun k hk => .peer (List.mem_of_getElem? hbb) hk
  have hkall := hide hkat.2.2.2
  clear hfin hnn hsok hr hxs hat hdt hpe hbb hpg hkat hpf hv hZ hd1 hok
  replace hi := hide hi
  replace hix := hide hix
  replace hrd := hide hrd
  replace hsl := hide hsl
  replace hfN := hide hfN
  replace hfS := hide hfS
  replace hcd := hide hcd
  replace hIb := hide hIb
  replace hok1 := hide hok1
  rw [hsv] at han
  clear hsv
  replace han := hide han
  replace hd := hide hd
  replace hdh := hide hdh
  replace n1 := hide n1
  replace n2 := hide n2
  replace n3 := hide n3
  go_enter Tryz.func79, Tryz.ntmps79
  go_wp2_with fail
  have hm1 : Mod NoB w (w.alloc (.cells #[.int .i64 k, .int .i64 h, .int .i64 a, .int .u64 (draw : Int), .slice (some ⟨bd, off, none⟩) l.length c] 38)) := (Mod.refl _ _).alloc _
  have hb1 := heap_alloc_new w (.cells #[.int .i64 k, .int .i64 h, .int .i64 a, .int .u64 (draw : Int), .slice (some ⟨bd, off, none⟩) l.length c] 38)
  generalize w.alloc (.cells #[.int .i64 k, .int .i64 h, .int .i64 a, .int .u64 (draw : Int), .slice (some ⟨bd, off, none⟩) l.length c] 38) = w1 at *
  have y0 := hm1.cellAt id k0
  have e2 := cell_of_block hb1 2 rfl
  have hix1 := hide (fun w2 (hm : Mod NoB w1 w2) => hix.out w2 (hm1.trans hm))
  replace hm1 := hide hm1
  replace hb1 := hide hb1
  go_still_tail 7, (by kernel_rfl)
  change wpList _ _ _ _ _ w1.drew
  have hm2 : Mod NoB w w1.drew := hm1.out.drew
  have hb2 : w1.drew.heap[w.heap.size]? = some (.cells #[.int .i64 k, .int .i64 h, .int .i64 a, .int .u64 (draw : Int), .slice (some ⟨bd, off, none⟩) l.length c] 38 (0, 0)) := hb1.out
  have hix2 := hide (hix.out _ hm2)
  clear y0 e2 hix1 hb1 hm1
  generalize w1.drew = w2 at *
  replace hm2 := hide hm2
  replace hb2 := hide hb2
  go_wp2_with fail
  refine hix2.out.mono ?_
  rintro e w5 ⟨rfl, rfl⟩
  clear hix2
  go_wp2_with fail
  have y6 := hm2.out.cellAt id k6
  have e1 := cell_of_block hb2.out 1 (v := .int .i64 h) rfl
  have ll := lt_of_block hb2.out
  have hrd2 := fun x : Since w2 => Since.call x (fun w' hm => hrd.out w' (hm2.out.trans hm))
  have z6 := fun x : Since w2 => Since.cell y6 x
  have ze1 := fun x : Since w2 => Since.cell e1 x
  replace hrd2 := hide hrd2
  clear y6 e1
  refine wp_region_mod (by kernel_rfl) (by kernel_rfl) ?_
  repeat (go_big_quiet_step ((go_at_call 46; exact hrd2.out _)))
  refine wpQuiet_nil ?_
  rintro w4 ⟨⟨_, hm4⟩, rfl⟩
  have hm3 := hide (hm2.out.trans hm4)
  have hb3 := hide (hm4.heap hb2.out id)
  clear hm4 hrd2 z6 ze1 ll hm2 hb2
  go_wp2_with fail
  have y6 := hm3.out.cellAt id k6
  have e1 := cell_of_block hb3.out 1 (v := .int .i64 h) rfl
  have ll := lt_of_block hb3.out
  have hrd2 := fun x : Since w4 => Since.call x (fun w' hm => hsl.out w' (hm3.out.trans hm))
  have z6 := fun x : Since w4 => Since.cell y6 x
  have ze1 := fun x : Since w4 => Since.cell e1 x
  replace hrd2 := hide hrd2
  clear y6 e1
  refine wp_region_mod (by kernel_rfl) (by kernel_rfl) ?_
  repeat (go_big_quiet_step ((go_at_call 117; exact hrd2.out _)))
  refine wpQuiet_nil ?_
  rintro w6 ⟨⟨_, hm4⟩, rfl⟩
  have hm2 := hide (hm3.out.trans hm4)
  have hb2 := hide (hm4.heap hb3.out id)
  clear hm4 hrd2 z6 ze1 ll hm3 hb3 hrd hsl hix
  go_upto_region 8 with (fail)
  go_cut [10, 11] (fun s10 s11 wx => HearCut P d1 w (.cells #[.int .i64 k, .int .i64 h, .int .i64 a, .int .u64 (draw : Int), .slice (some ⟨bd, off, none⟩) l.length c] 38 (0, 0)) xs r3 s10 s11 wx)
  case first =>
    have y7 := hm2.out.cellAt id k7
    have yc := hm2.out.cellAt id hcell
    have e1 := cell_of_block hb2.out 1 (v := .int .i64 h) rfl
    have e4 := cell_of_block hb2.out 4 (v := .slice (some ⟨bd, off, none⟩) l.length c) rfl
    have ll := lt_of_block hb2.out
    have han2 := hide (fun w9 (hm : Mod NoB w6 w9) => han.out w9 (hm2.out.trans hm))
    have hlbb := hide (fun k (hk : k = bb.1 ∨ k = bb.2) => Nat.lt_of_lt_of_le (hd.out.lt k (hIb.out k hk)) hm2.out.size)
    have lb6 := lt_of_cell y7
    have lg6 := lt_of_cell yc
    go_region_held3 (fun w' => w'.cell? ⟨P.b, 7, none⟩ = some (.slice (some ⟨g, 0, none⟩) d.ps.length pc) ∧ w'.cell? ⟨g, i, none⟩ = some (at0 bb.1) ∧ w'.cell? ⟨w.heap.size, 1, none⟩ = some (.int .i64 h) ∧ w'.cell? ⟨w.heap.size, 4, none⟩ = some (.slice (some ⟨bd, off, none⟩) l.length c)) (first | with_reducible exact ⟨hm9.out.cellAt n1.out y7, hm9.out.cellAt n2.out yc, hm9.out.cellAt n3.out e1, hm9.out.cellAt n3.out e4⟩ | with_reducible exact ⟨(hm9.out.alloc _).cellAt n1.out y7, (hm9.out.alloc _).cellAt n2.out yc, (hm9.out.alloc _).cellAt n3.out e1, (hm9.out.alloc _).cellAt n3.out e4⟩ | with_reducible exact ⟨(Mod.set4x hm9.out (Or.inr (Nat.le_refl _)) _ _ _ _).cellAt n1.out y7, (Mod.set4x hm9.out (Or.inr (Nat.le_refl _)) _ _ _ _).cellAt n2.out yc, (Mod.set4x hm9.out (Or.inr (Nat.le_refl _)) _ _ _ _).cellAt n3.out e1, (Mod.set4x hm9.out (Or.inr (Nat.le_refl _)) _ _ _ _).cellAt n3.out e4⟩ | go_keep) (first
      | (go_at_call 118; (with_reducible refine (han2.out _ ((Mod.refl NoB w6).alloc _).drew).mono ?_); rintro e w9 ⟨rfl, hdo, hm9⟩; replace hdo := hide hdo; have hbx := box_keep hm9 hlbb.out; obtain ⟨x0, x1, x2, x3, f0, f1, f2, f3⟩ := four_of hbx; replace hbx := hide hbx; replace hm9 := hide (((Mod.refl _ w6).alloc _).drew.trans hm9))
      | (go_at_call 118; (with_reducible refine (han2.out _ (Mod.refl NoB w6).drew).mono ?_); rintro e w9 ⟨rfl, hdo, hm9⟩; replace hdo := hide hdo; replace hm9 := hide ((Mod.refl _ w6).drew.trans hm9)))
    · go_wp2_with fail
      go_meet
      have h9 := hm9.out.size
      exact ⟨⟨_, rfl, rfl, by omega, heap_alloc_new _ _⟩, (hm9.out.alloc _).heap hb2.out n3.out, hdo.out.quiet ((Mod.refl _ _).alloc _), ((DTo.quiet hm2.out).trans (.of hm9.out hIb.out)).thenQ ((Mod.refl _ _).alloc _)⟩
    · go_wp2_with fail
      go_meet
      have hms := Mod.set4x (S := (· = w6.heap.size)) (Mod.refl _ w9) (Or.inl rfl) (.int .i64 xs.offset) (.int .i64 xs.delay) (.int .i64 xs.at') (.int .i64 xs.slewed)
      have hms2 := Mod.set4x hm9.out (Or.inr (Nat.le_refl _)) (.int .i64 xs.offset) (.int .i64 xs.delay) (.int .i64 xs.at') (.int .i64 xs.slewed)
      have h9 := hm9.out.size
      have hlw := hd.out.lt
      exact ⟨⟨_, rfl, rfl, ll, set4_heap hbx.out _ _ _ _⟩, hms2.heap hb2.out n3.out, hdo.out.apart hms (fun k hk hf => by have := hlw k hf; omega), (DTo.quiet hm2.out).trans (.of hms2 hIb.out)⟩
  case rest =>
    obtain ⟨⟨sb, rfl, rfl, hsb, hsc⟩, hev, hdx, htx⟩ := hcut
    clear hm2 hb2 han hcell k0 k6 k7
    replace hsb := hide hsb
    by_cases h3 : r3 = 0
    · subst h3
      obtain ⟨hxo, hZ⟩ := hfS.out rfl
      obtain ⟨s, hs⟩ : ∃ s, P.ss[i]? = some s := by
        have h1 : P.ss.length = d1.ss.length := by rw [← hdx.sxs]; simp
        have h2 := hok1.out.sn
        rw [hcd.out.1] at h2
        have h3 : i < P.ss.length := by omega
        exact ⟨P.ss[i], List.getElem?_eq_getElem h3⟩
      obtain ⟨gs, cs, hsv, hscell⟩ := hdx.storeCell hs
      have hil2 : i < P.ss.length := (List.getElem?_eq_some_iff.1 hs).1
      have hii2 : (i : Int) < P.ss.length := by omega
      have k8 := cell_of_block hdx.blk 8 (v := P.sv) rfl
      rw [hsv] at k8
      obtain ⟨b0, b1, b2, b3, -⟩ := four_of hsc
      have hadd := hide (fun w2 (hm : Mod NoB wc w2) => (hdx.quiet hm).addStore hok1.out hs xs)
      obtain ⟨d2, hd2e⟩ : ∃ d2, ({ d1 with ss := d1.ss.set i (storeAdd (d1.ss.getD i []) xs) } : DaemonS) = d2 := ⟨_, rfl⟩
      have hok2 : d2.Ok := hd2e ▸ hok1.out.storeSet i (storeAdd_ok (hok1.out.storeAt i) hxo)
      have hc2 : d2.c = d.c ∧ d2.k = d.k ∧ d2.h = h ∧ d2.chosen = d.chosen := by rw [← hd2e]; exact ⟨hcd.out.1, hcd.out.2.1, hcd.out.2.2.1, hcd.out.2.2.2.1⟩
      rw [hd2e] at hadd hZ
      replace hZ := hide hZ
      have hlw := hd.out.lt
      replace hlw := hide hlw
      replace hev := hide hev
      replace hdx := hide hdx
      replace htx := hide htx
      replace hsc := hide hsc
      replace hc2 := hide hc2
      replace hok2 := hide hok2
      replace hd2e := hide hd2e
      clear hxo hs hil2 hsv hfS hfN hok1 hcd
      go_wp2_with fail
      go_still_tail 8, (by kernel_rfl)
      change wpList _ _ _ _ _ wc.drew
      have hadd2 := hide (hadd.out _ (Mod.refl NoB wc).drew)
      have hev2 : Hid (wc.drew.heap[w.heap.size]? = some (.cells #[.int .i64 k, .int .i64 h, .int .i64 a, .int .u64 (draw : Int), .slice (some ⟨bd, off, none⟩) l.length c] 38 (0, 0))) := hev
      have htx2 := hide htx.out.drew
      clear hadd k8 b0 b1 b2 b3 hscell hev htx hsc hdx
      generalize wc.drew = wd at *
      go_wp2_with fail
      refine hadd2.out.mono ?_
      rintro e wf ⟨⟨rr, rfl⟩, P2, hd2, ht2⟩
      have hev3 := ht2.m.heap hev2.out (fun f => by have := hlw.out _ f; omega)
      have htx3 := htx2.out.trans ht2
      have hb2 := ht2.b
      obtain ⟨p2, c2, hsv2, hst2⟩ := hd2.stores hok2.out
      have hblk2 := hd2.blk
      rw [hb2, hsv2] at hblk2
      have e1 := cell_of_block hev3 1 (v := .int .i64 h) rfl
      have q1 := cell_of_block hblk2 1 (v := .int .i64 d2.c.q) rfl
      have q3 := cell_of_block hblk2 3 (v := .int .i64 d2.c.m) rfl
      have q8 := cell_of_block hblk2 8 (v := .slice p2 P2.ss.length c2) rfl
      obtain ⟨⟨_, _⟩, ⟨g1, g2⟩, ⟨g3, g4⟩, _⟩ := cfg_nums hok2.out.c
      have hL16 : P2.ss.length ≤ 16 := by
        have h1 : P2.ss.length = d2.ss.length := by rw [← hd2.sxs]; simp
        have h2 := hok2.out.sn
        have h3 := srv_le hok2.out.c
        omega
      obtain ⟨m2, hm2e⟩ : ∃ m2, m2 = 2 * d2.c.m := ⟨_, rfl⟩
      obtain ⟨life, hlife⟩ : ∃ life, life = 2 * (d2.c.m * 1000000000) := ⟨_, rfl⟩
      have w1 : IntKind.i64.wrap (2 * d2.c.m) = m2 := by rw [hm2e, wrap_in ⟨by omega, by omega⟩]
      have w2 : IntKind.i64.wrap (m2 * 1000000000) = life := by rw [hlife, hm2e, wrap_in ⟨by omega, by omega⟩]; omega
      have hzz : I64 (d.k.at h).all := hkall.out
      have hsel := fun wx (hm : Mod NoB wf wx) => select_any d2.c.q g3 p2 c2 P2.ss h life (d.k.at h).all (by omega) hh hzz wx (hst2.mod0 hm)
      have hvt := hd2.votes h life (d.k.at h).all
      obtain ⟨V, hV⟩ : ∃ V, votesTo P2.ss h life (d.k.at h).all P2.ss.length = V := ⟨_, rfl⟩
      obtain ⟨ch1, ch2, hch⟩ : ∃ ch1 ch2, chooseS d2.c.q V = (ch1, ch2) := ⟨_, _, rfl⟩
      simp only [hV, hch] at hsel
      have htk : takeS d2 h = if ch2 = 0 then { d2 with k := d2.k.adjust h ch1, theta := ch1, votes := V, chosen := IntKind.i64.wrap (d2.chosen + 1) } else d2 := by
        unfold takeS
        rw [← hlife, hc2.out.2.1, ← hvt, hV, hch]
      have hVl : V.length ≤ 16 := by rw [← hV]; have := votesTo_len P2.ss h life (d.k.at h).all P2.ss.length; omega
      replace hsel := hide hsel
      replace hV := hide hV
      replace hch := hide hch
      replace hvt := hide hvt
      replace htk := hide htk
      replace hlife := hide hlife
      replace hm2e := hide hm2e
      replace hst2 := hide hst2
      replace hd2 := hide hd2
      replace ht2 := hide ht2
      replace hev3 := hide hev3
      replace htx3 := hide htx3
      replace hblk2 := hide hblk2
      replace hb2 := hide hb2
      replace hsv2 := hide hsv2
      clear hadd2 hev2 htx2 g1 g2 g3 g4
      go_wp2_with fail
      go_region_held3 (fun w' => w'.cell? ⟨P.b, 1, none⟩ = some (.int .i64 d2.c.q) ∧ w'.cell? ⟨P.b, 3, none⟩ = some (.int .i64 d2.c.m) ∧ w'.cell? ⟨P.b, 8, none⟩ = some (.slice p2 P2.ss.length c2) ∧ w'.cell? ⟨w.heap.size, 1, none⟩ = some (.int .i64 h))
        (first | with_reducible exact ⟨hms.out.cellAt id q1, hms.out.cellAt id q3, hms.out.cellAt id q8, hms.out.cellAt id e1⟩ | go_keep)
        ((go_at_call 120; (with_reducible refine (hsel.out _ (Mod.refl NoB wf).drew).mono ?_); rintro e wg ⟨v, rfl, hown, hms⟩; replace hown := hide hown; replace hms := hide ((Mod.refl NoB wf).drew.trans hms)))
      obtain ⟨vp, vc, hvv⟩ := own_value hown.out
      subst hvv
      have hdg := hide (hd2.out.quiet hms.out)
      have htg := hide (htx3.out.thenQ hms.out)
      have heg := hide (hms.out.heap hev3.out id)
      have hwf := hms.out.size
      by_cases h2 : ch2 = 0
      · subst h2
        have hadj := hide (fun wx (hm : Mod NoB wg wx) => (hdg.out.quiet hm).adjust hok2.out hc2.out.2.2.1 ch1)
        have hblkg := hdg.out.blk
        rw [hb2.out] at hblkg
        have k6 := cell_of_block hblkg 6 (v := at0 P2.bk) rfl
        have e1g := cell_of_block heg.out 1 (v := .int .i64 h) rfl
        replace hblkg := hide hblkg
        clear e1 q1 q3 q8 w1 w2 hsel
        go_wp2_with fail
        go_still_tail 7, (by kernel_rfl)
        change wpList _ _ _ _ _ wg.drew
        have hadj2 := hide (hadj.out _ (Mod.refl NoB wg).drew)
        have htg2 := hide htg.out.drew
        have howng := hide (ownsRow_mod2 hown.out (Mod.refl NoB wg).drew (fun _ _ f => f.elim))
        have hmwg := hide ((Mod.refl NoB wf).trans (hms.out.drew))
        have hclk : Hid (KO wg.drew P2.bk d2.k) := hide hdg.out.clk
        have hown2 := hown
        clear hadj k6 e1g htg hown heg hms hev3 hdg
        generalize wg.drew = wh at *
        go_wp2_with fail
        refine hadj2.out.mono ?_
        rintro e wi ⟨rfl, hdi, hmi⟩
        have howi := hide (ownsRow_mod2 howng.out hmi (fun g hg e => by
          obtain ⟨cu, hcu⟩ := own_block howng.out hg
          exact ne_type hcu hclk.out (by decide) e))
        have hmw := hide ((hmwg.out.mono (T := fun k => k = P2.bk ∨ k = P2.b) (fun _ _ f => f.elim)).trans (hmi.mono (fun _ _ h => Or.inl h)))
        have hbi := hdi.blk
        have hbv := hdi.vrow
        rw [hb2.out] at hbi
        have k13 := cell_of_block hbi 13 (v := .int .i64 d2.theta) rfl
        have k14 := cell_of_block hbi 14 (v := P2.vv) rfl
        have k15 := cell_of_block hbi 15 (v := .int .i64 d2.chosen) rfl
        have z13 := frozen_of_block hbi 13
        have z14 := frozen_of_block hbi 14
        have z15 := frozen_of_block hbi 15
        have hmf : Mod (· = P.b) wi (((wi.setCell ⟨P.b, 13, none⟩ (.int .i64 ch1)).setCell ⟨P.b, 14, none⟩ (.slice vp V.length vc)).setCell ⟨P.b, 15, none⟩ (.int .i64 (wrap64 (d2.chosen + 1)))) := (((Mod.refl _ _).set1 _ _).set1 _ _).set1 _ _
        have hbf := heap_setCell_eq (heap_setCell_eq (heap_setCell_eq hbi (o := 13) (.int .i64 ch1)) (o := 14) (.slice vp V.length vc)) (o := 15) (.int .i64 (wrap64 (d2.chosen + 1)))
        obtain ⟨wl, hwl⟩ : ∃ wl, (((wi.setCell ⟨P.b, 13, none⟩ (.int .i64 ch1)).setCell ⟨P.b, 14, none⟩ (.slice vp V.length vc)).setCell ⟨P.b, 15, none⟩ (.int .i64 (wrap64 (d2.chosen + 1)))) = wl := ⟨_, rfl⟩
        rw [hwl] at hmf hbf
        replace hbi := hide hbi
        replace hbf := hide hbf
        replace hmf := hide hmf
        replace hdi := hide hdi
        clear hmi hbv hadj2 hclk howng hmwg
        go_wp2_with fail
        go_ret
        rw [hZ.out]
        have hpb : P2.b = P.b := hb2.out
        have hvf := ownsRow_mod2 howi.out hmf.out (fun g hg e => by
          obtain ⟨cu, hcu⟩ := own_block howi.out hg
          exact ne_type hcu hbi.out (by decide) e)
        have hmf2 : Mod (· = P2.b) wi wl := by rw [hpb]; exact hmf.out
        have hbf2 := hbf.out
        rw [← hpb] at hbf2
        refine ⟨rfl, { P2 with vv := .slice vp V.length vc }, ?_, htx3.out.trans (.self (S := fun k => k = P2.bk ∨ k = P2.b) (hmw.out.trans (hmf2.mono (fun _ _ h => Or.inr h))) ?_ (fun g hg => Or.inr (own_from hown2.out hg)))⟩
        · rw [htk.out, if_pos trivial]
          refine hdi.out.self hmf2 d2.draw d2.h ch1 (IntKind.i64.wrap (d2.chosen + 1)) V (.slice vp V.length vc) ?_ (own_lower hvf (Nat.zero_le _))
          rw [← wrap64_eq]
          simpa using hbf2
        · rintro k (rfl | rfl)
          · exact .bk
          · exact .b
      · have hb0 : (ch2 == 0) = false := by simpa using h2
        replace hdg := hide hdg.out
        clear e1 q1 q3 q8 w1 w2 hsel hms hown
        go_wp2_with fail
        go_ret
        rw [hZ.out]
        refine ⟨rfl, P2, ?_, htg.out⟩
        rw [htk.out, if_neg h2]
        exact hdg.out
    · have hZ := hide (hfN.out h3)
      have hb : (r3 != 0) = true := by simpa using h3
      replace hdx := hide hdx
      replace htx := hide htx
      clear h3 hfS hfN
      go_wp2_with fail
      go_ret
      rw [hZ.out]
      exact ⟨rfl, P, hdx.out, htx.out⟩
end Go.Proofs.YtpjfiplejhbdfaaGreatDoor

