/- daemon.Do (contract): an event that may be. daemon.Do (contract): any event. What a daemon sends, as bytes and texts; what stays behind a Do. -/
import Derived.Test.YtpjfiplejhbdfaaGreatDoorPUba
import Derived.Laws.BytesArg
namespace Go.Proofs.YtpjfiplejhbdfaaGreatDoor
set_option linter.unusedSimpArgs false
open Go.RowKit

/-- What a method leaves. -/
def MidPost (P : DPl) (d : DaemonS) (L : List (Int × List Nat)) (r : Int) (w : World) (e : Ending) (w' : World) : Prop :=
  ∃ v P', e = .returned (.agg #[v, .int .i64 0, .int .i64 0, .int .i64 r]) ∧ DO w' P' d ∧ DTo P P' w w' ∧ SendsAt w' w.heap.size v L
/-- Behind the method. -/
structure DoAt (P P7 : DPl) (d7 : DaemonS) (w : World) (ev o : Obj) (b8 : Nat) (v : Value) (Ls : List (Int × List Nat)) (wx : World) : Prop where
  ev : wx.heap[w.heap.size]? = some ev
  out : wx.heap[w.heap.size + 1]? = some (.cells #[.slice none 0 0, .int .i64 0, .int .i64 0, .int .i64 0] 44 (0, 0))
  o : wx.heap[b8]? = some o
  d : DO wx P7 d7
  t : DTo P P7 w wx
  s : SendsAt wx w.heap.size v Ls
theorem DoAt.quiet {P P7 : DPl} {d7 : DaemonS} {w wx wy : World} {ev o : Obj} {b8 : Nat} {v : Value} {Ls : List (Int × List Nat)} (h : DoAt P P7 d7 w ev o b8 v Ls wx) (hm : Mod NoB wx wy) : DoAt P P7 d7 w ev o b8 v Ls wy :=
  ⟨hm.heap h.ev id, hm.heap h.out id, hm.heap h.o id, h.d.quiet hm, h.t.thenQ hm, h.s.mod hm (fun _ _ => id)⟩
theorem SendsAt.keep {S : Nat → Prop} {w w' : World} (hm : Mod S w w') {T : List (Option TypeId)} (hS : ∀ k, S k → ∀ o, w.heap[k]? = some o → tyOf o ∈ T) {base : Nat} {v : Value} {L : List (Int × List Nat)} (h : SendsAt w base v L) (h1 : some 48 ∉ T) (h2 : some 5 ∉ T) : SendsAt w' base v L := by
  have hO : Only T 0 w S := fun k hk => ⟨Nat.zero_le _, hS k hk⟩
  obtain ⟨vs, hl, hr, hd⟩ := h
  exact ⟨vs, hl, ownsRow_keep hm hO hr h1, fun i x u hx hu => ownsRow_keep hm hO (hd i x u hx hu) h2⟩
theorem DoAt.set {P P7 : DPl} {d7 : DaemonS} {w wx wy : World} {ev o : Obj} {b8 : Nat} {v : Value} {Ls : List (Int × List Nat)} (h : DoAt P P7 d7 w ev o b8 v Ls wx) (hm : Mod (fun j => j = P7.bq ∨ j = P7.bqm) wx wy) (hd : DO wy P7 d7)
    (hnf : ∀ k, fpD P7 k → k ≠ w.heap.size ∧ k ≠ w.heap.size + 1 ∧ k ≠ b8) : DoAt P P7 d7 w ev o b8 v Ls wy := by
  obtain ⟨L, hq, _⟩ := h.d.que
  obtain ⟨nq, hqb⟩ := hq.blk
  have hf : ∀ k, (k = P7.bq ∨ k = P7.bqm) → fpD P7 k := fun k hk => hk.elim (fun e => e ▸ .bq) (fun e => e ▸ .bqm)
  refine ⟨hm.heap h.ev (fun s => (hnf _ (hf _ s)).1 rfl), hm.heap h.out (fun s => (hnf _ (hf _ s)).2.1 rfl), hm.heap h.o (fun s => (hnf _ (hf _ s)).2.2 rfl), hd, h.t.trans (.of hm hf), h.s.keep hm (T := [tQue, none]) ?_ (by decide) (by decide)⟩
  rintro k (rfl | rfl) ob hob
  · rw [hqb] at hob; cases hob; simp [tyOf]
  · rw [hq.map] at hob; cases hob; simp [tyOf]
/-- The answer's box, another. -/
theorem DoAt.box {P P7 : DPl} {d7 : DaemonS} {w wx wy : World} {ev o o' : Obj} {b8 : Nat} {v : Value} {Ls : List (Int × List Nat)} (h : DoAt P P7 d7 w ev o b8 v Ls wx) (hm : Mod (· = b8) wx wy) (ho : wy.heap[b8]? = some o')
    (hnf : ∀ k, fpD P7 k → k ≠ b8) (h8 : w.heap.size + 2 ≤ b8) (ht : tyOf o = some 44) : DoAt P P7 d7 w ev o' b8 v Ls wy :=
  ⟨hm.heap h.ev (by omega), hm.heap h.out (by omega), ho, h.d.apart hm (fun k hk hf => hnf k hf hk), h.t.own hm (fun k hk => by omega), h.s.keep hm (T := [some 44]) (fun k hk ob hob => by rw [hk, h.o] at hob; cases hob; simp [ht]) (by decide) (by decide)⟩
set_option maxRecDepth 100000 in
set_option maxHeartbeats 8000000 in
theorem do_mid (P : DPl) (d d7 : DaemonS) (hok : d.Ok) (hok7 : d7.Ok) (k h a : Int) (hkk : k = 0 ∨ k = 1) (hh0 : 0 ≤ h) (hh1 : h ≤ 4611686018427387903) (hdh : d.h ≤ h) (h7 : d7.h = h) (draw : Nat) (p : Option Addr) (n c : Nat) (Ls : List (Int × List Nat)) (r : Int) (w : World) (hd : DO w P d)
    (F : FuncId) (hF : foundF P.b k = (.func (.func F) #[at0 P.b] #[], true)) (hent : ∀ args w, (callFunc F args).run Tryz.prog w = .ok (.enter F args) w)
    (hcall : ∀ w6, DO w6 P { d with h := h } → Mod (· = P.b) w w6 → Calls Tryz.prog F #[at0 P.b, evV k h a draw (.slice p n c)] w6 (MidPost P d7 Ls r w6)) :
    Calls Tryz.prog 14 #[at0 P.b, evV k h a draw (.slice p n c)] w (DoPost P d7 ⟨Ls, (d7.k.at h).c, wakeS d7.ps, r⟩ 0 w) := by
  have hmm := @run_makeMap Tryz.prog
  have hmf : ∀ (fn : Fn) (first cap : Array Value) (w : World), (Instr.makeFunc fn first cap).run Tryz.prog w = .ok (.func fn first cap) w := fun _ _ _ _ => rfl
  have hlb := lt_of_block hd.blk
  obtain ⟨w2, hw2⟩ : ∃ w2, (w.alloc (.cells #[.int .i64 k, .int .i64 h, .int .i64 a, .int .u64 (draw : Int), .slice p n c] 38)).alloc (.cells #[.slice none 0 0, .int .i64 0, .int .i64 0, .int .i64 0] 44) = w2 := ⟨_, rfl⟩
  have hm2 : Mod NoB w w2 := by rw [← hw2]; exact ((Mod.refl _ _).alloc _).alloc _
  have he2 : w2.heap[w.heap.size]? = some (.cells #[.int .i64 k, .int .i64 h, .int .i64 a, .int .u64 (draw : Int), .slice p n c] 38 (0, 0)) := by
    rw [← hw2]
    exact (heap_alloc_old (by simp) _).trans (heap_alloc_new w _)
  have ho2 : w2.heap[w.heap.size + 1]? = some (.cells #[.slice none 0 0, .int .i64 0, .int .i64 0, .int .i64 0] 44 (0, 0)) := by
    have := heap_alloc_new (w.alloc (.cells #[.int .i64 k, .int .i64 h, .int .i64 a, .int .u64 (draw : Int), .slice p n c] 38)) (.cells #[.slice none 0 0, .int .i64 0, .int .i64 0, .int .i64 0] 44)
    rw [World.size_alloc, hw2] at this
    exact this
  have hs2 : w2.heap.size = w.heap.size + 2 := by rw [← hw2]; simp
  have hhd : ¬ (h < d.h) := by omega
  have hn1 : ¬ (4611686018427387903 < h) := by omega
  have hn0 : ¬ (h < 0) := by omega
  replace hd := hide hd
  replace hm2 := hide hm2
  replace he2 := hide he2
  replace ho2 := hide ho2
  replace hs2 := hide hs2
  replace hok := hide hok
  replace hok7 := hide hok7
  replace h7 := hide h7
  replace hcall := hide hcall
  replace hkk := hide hkk
  go_enter Tryz.func14, Tryz.ntmps14
  go_upto_region 3 with (fail)
  obtain ⟨w3, w4, w5, hw3, hi0, hi1, hlk, hm5, hm3, hm4⟩ := methods w2 P.b k
  have e0 := hm3.cellAt id (cell_of_block he2.out 0 (v := .int .i64 k) rfl)
  have e0' := hm4.cellAt id (cell_of_block he2.out 0 (v := .int .i64 k) rfl)
  have he5 := hide (hm5.heap he2.out id)
  have ho5 := hide (hm5.heap ho2.out id)
  have e05 := cell_of_block he5.out 0 (v := .int .i64 k) rfl
  have e15 := cell_of_block he5.out 1 (v := .int .i64 h) rfl
  have hd5 := hide (hd.out.quiet (hm2.out.trans hm5))
  have hmw5 := hide (hm2.out.trans hm5)
  have hsz5 := hm5.size
  rw [hF] at hlk
  clear hm3 hm4 hm5 he2 ho2 hF
  have k12 := cell_of_block hd5.out.blk 12 (v := .int .i64 d.h) rfl
  go_upto_region 8 with (fail)
  go_quiet (fail)
  have hmd : Mod NoB w5 (w5.drewN nq) := (Mod.refl _ _).drewN _
  replace hmw5 := hide (hmw5.out.trans hmd)
  replace hd5 := hide (hd5.out.quiet hmd)
  replace he5 := hide (hmd.heap he5.out id)
  replace ho5 := hide (hmd.heap ho5.out id)
  have hsz6 : w.heap.size + 2 ≤ (w5.drewN nq).heap.size := by have := hs2.out; have h2 := hmd.size; omega
  clear hmd k12 e05 e15 e0 e0' hsz5
  generalize w5.drewN nq = w6 at *
  have e16 := cell_of_block he5.out 1 (v := .int .i64 h) rfl
  have z12 := frozen_of_block hd5.out.blk 12
  have k12 := cell_of_block hd5.out.blk 12 (v := .int .i64 d.h) rfl
  obtain ⟨w7, hw7⟩ : ∃ w7, w6.setCell ⟨P.b, 12, none⟩ (.int .i64 h) = w7 := ⟨_, rfl⟩
  have hms : Mod (· = P.b) w6 w7 := by rw [← hw7]; exact (Mod.refl _ _).set1 _ _
  have hb7 : w7.heap[P.b]? = some (.cells #[.slice P.sp d.c.srv.length P.sc, .int .i64 d.c.q, .int .i64 d.c.l, .int .i64 d.c.m, .int .i64 d.c.d, .int .i64 d.c.s, at0 P.bk, P.pv, P.sv, at0 P.bq, at0 P.bc, .int .u64 (d.draw : Int), .int .i64 h, .int .i64 d.theta, P.vv, .int .i64 d.chosen] 100 (0, 0)) := by
    have := heap_setCell_eq hd5.out.blk (o := 12) (.int .i64 h)
    rw [hw7] at this
    simpa using this
  have hd7 : DO w7 P { d with h := h } := hd5.out.self hms d.draw h d.theta d.chosen d.votes P.vv hb7 (ownsRow_mod2 hd5.out.vrow hms (fun g hg e => by
    obtain ⟨cu, hcu⟩ := own_block hd5.out.vrow hg
    exact ne_type hcu hd5.out.blk (by decide) e))
  have he7 := hms.heap he5.out (by omega)
  have ho7 := hms.heap ho5.out (by omega)
  have j0 := cell_of_block he7 0 (v := .int .i64 k) rfl
  have j1 := cell_of_block he7 1 (v := .int .i64 h) rfl
  have j2 := cell_of_block he7 2 (v := .int .i64 a) rfl
  have j3 := cell_of_block he7 3 (v := .int .u64 (draw : Int)) rfl
  have j4 := cell_of_block he7 4 (v := .slice p n c) rfl
  have hm7 : Mod (· = P.b) w w7 := (hmw5.out.mono (T := (· = P.b)) (fun _ _ f => f.elim)).trans hms
  have hc7 := hide (hcall.out w7 hd7 hm7)
  have ht7 : DTo P P w w7 := .of hm7 (fun k hk => hk ▸ .b)
  have hsz7 : w.heap.size + 2 ≤ w7.heap.size := Nat.le_trans hsz6 hms.size
  have hlw := hide hd.out.lt
  replace he7 := hide he7
  replace ho7 := hide ho7
  replace ht7 := hide ht7
  clear hms hb7 hd7 hm7 hd5 he5 ho5 hmw5 hcall hsz6
  go_wp2_with fail
  refine hc7.out.mono ?_
  rintro e w8 ⟨v, P7, rfl, hd8, ht8, hs8⟩
  obtain ⟨vp, vc, hvv⟩ := hs8.slice
  subst hvv
  have hnf : ∀ k, fpD P7 k → k ≠ w.heap.size ∧ k ≠ w.heap.size + 1 := fun k hk => by
    rcases ht8.f k hk with h1 | h1
    · have := hlw.out k h1; omega
    · omega
  have hlt8 := hd8.lt
  have he8 := ht8.m.heap he7.out (fun f => by have := hlw.out _ f; omega)
  have ho8 := ht8.m.heap ho7.out (fun f => by have := hlw.out _ f; omega)
  have ht := ht7.out.trans ht8
  have hsz8 : w.heap.size + 2 ≤ w8.heap.size := Nat.le_trans hsz7 ht8.m.size
  obtain ⟨w9, hw9⟩ : ∃ w9, w8.alloc (.cells #[.slice vp Ls.length vc, .int .i64 0, .int .i64 0, .int .i64 r] 44) = w9 := ⟨_, rfl⟩
  have hm9 : Mod NoB w8 w9 := by rw [← hw9]; exact (Mod.refl _ _).alloc _
  have hb9 : w9.heap[w8.heap.size]? = some (.cells #[.slice vp Ls.length vc, .int .i64 0, .int .i64 0, .int .i64 r] 44 (0, 0)) := by rw [← hw9]; exact heap_alloc_new _ _
  have hda : DoAt P P7 d7 w (.cells #[.int .i64 k, .int .i64 h, .int .i64 a, .int .u64 (draw : Int), .slice p n c] 38 (0, 0)) (.cells #[.slice vp Ls.length vc, .int .i64 0, .int .i64 0, .int .i64 r] 44 (0, 0)) w8.heap.size (.slice vp Ls.length vc) Ls w9 :=
    ⟨hm9.heap he8 id, hm9.heap ho8 id, hb9, hd8.quiet hm9, ht.thenQ hm9, (hs8.lower (by omega)).mod hm9 (fun _ _ => id)⟩
  have hnf3 : ∀ k, fpD P7 k → k ≠ w.heap.size ∧ k ≠ w.heap.size + 1 ∧ k ≠ w8.heap.size := fun k hk => ⟨(hnf k hk).1, (hnf k hk).2, by have := hlt8 k hk; omega⟩
  have hPb : P7.b = P.b := ht.b
  generalize hb8 : w8.heap.size = b8 at *
  replace hda := hide hda
  replace hnf3 := hide hnf3
  replace hPb := hide hPb
  clear hnf hlt8 he8 ho8 ht hm9 hb9 hd8 ht8 hs8 hc7 he7 ho7 ht7 hsz7 hlw hd j0 j1 j2 j3 j4 hhd hn1 hn0
  have hps7 : d7.ps.length = d7.c.srv.length := hok7.out.pn
  obtain ⟨_, _, ⟨q1, q2⟩, _⟩ := cfg_nums hok7.out.c
  have hsl := srv_le hok7.out.c
  have hpbl : P7.pbs.length = d7.ps.length := hda.out.d.pn
  obtain ⟨g, pc, hpv, -⟩ := hda.out.d.peerCell (i := 0) (bb := P7.pbs[0]'(by omega)) (List.getElem?_eq_getElem (by omega))
  have hrow : ∀ wr, DO wr P7 d7 → ∀ i bb, P7.pbs[i]? = some bb → wr.cell? ⟨g, i, none⟩ = some (at0 bb.1) := by
    intro wr hd' i bb hbb
    obtain ⟨g', c', h1, h2⟩ := hd'.peerCell hbb
    rw [hpv] at h1
    obtain ⟨h3, _, _⟩ := Value.slice.inj h1
    cases h3
    exact h2
  have hat : ∀ i, i < d7.ps.length → ∃ p bb, d7.ps[i]? = some p ∧ P7.pbs[i]? = some bb ∧ p.Fit := by
    intro i hi
    exact ⟨d7.ps[i], P7.pbs[i]'(by omega), List.getElem?_eq_getElem hi, List.getElem?_eq_getElem (by omega), hok7.out.p _ (List.getElem_mem hi)⟩
  obtain ⟨N, hN⟩ : ∃ N, d7.ps.length = N := ⟨_, rfl⟩
  have hN0 : 1 ≤ N := by omega
  have hN16 : N ≤ 16 := by omega
  rw [hN] at hpv
  have hbk := hda.out.d.blk
  rw [hPb.out, hpv] at hbk
  have k7 := cell_of_block hbk 7 (v := .slice (some ⟨g, 0, none⟩) N pc) rfl
  replace hbk := hide hbk
  replace hrow := hide hrow
  replace hat := hide hat
  replace hN := hide hN
  clear q1 q2 hps7 hsl hpbl
  go_wp2_with fail
  go_loopw [62] (fun s62 wr => ∃ (j : Nat) (L : List (Int × Int)), s62 = .int .i64 j ∧ j ≤ N ∧ DoAt P P7 d7 w (.cells #[.int .i64 k, .int .i64 h, .int .i64 a, .int .u64 (draw : Int), .slice p n c] 38 (0, 0)) (.cells #[.slice vp Ls.length vc, .int .i64 0, .int .i64 0, .int .i64 r] 44 (0, 0)) b8 (.slice vp Ls.length vc) Ls wr ∧ QO wr P7.bq P7.bqm L ∧ L.length = d7.ps.length ∧ QFor L d7.ps j) (fun s62 wr => N - (match s62 with | .int _ i => i.toNat | _ => 0))
  case atStart =>
    obtain ⟨L, hq, hl⟩ := hda.out.d.que
    exact ⟨0, L, rfl, Nat.zero_le _, hda.out, hq, hl, fun i hi => by omega⟩
  case round =>
    obtain ⟨j, L, rfl, hj, hdj, hq, hL, hf⟩ := hrel
    have hbj := hdj.d.blk
    rw [hPb.out] at hbj
    by_cases hjk : j < N
    · obtain ⟨pe, bb, hpe, hbb, hfit⟩ := hat.out j (by rw [hN.out]; exact hjk)
      have hcell := hrow.out wr hdj.d j bb hbb
      have k9 := cell_of_block hbj 9 (v := at0 P7.bq) rfl
      have hki : (j : Int) < N := by omega
      obtain ⟨nq, hqb⟩ := hq.blk
      have nqb : ¬ (P.b = P7.bq ∨ P.b = P7.bqm) := by
        rintro (e | e)
        · exact ne_type hbj hqb (by decide) e
        · rw [e, hq.map] at hbj; cases hbj
      have hnx := hide (fun wx (hm : Mod NoB wr wx) => (hdj.d.quiet hm).next hbb hpe hfit)
      have hnote := hide (fun wx (hm : Mod NoB wr wx) => (hdj.d.quiet hm).note (hq.mod hm id id) hL hpe hf)
      replace hdj := hide hdj
      replace hq := hide hq
      replace hL := hide hL
      replace hf := hide hf
      replace hpe := hide hpe
      replace hbb := hide hbb
      replace hfit := hide hfit
      replace nqb := hide nqb
      replace hbj := hide hbj
      replace hqb := hide hqb
      clear hj hjk k7
      go_wp2_with fail
      go_region_held3 (fun w' => w'.cell? ⟨P.b, 9, none⟩ = some (at0 P7.bq))
        (first | with_reducible exact hma.out.cellAt id k9 | with_reducible exact hmc.out.cellAt nqb.out k9 | go_keep)
        (first
          | (go_at_call 42; (with_reducible refine (hnx.out _ (Mod.refl NoB wr).drew).mono ?_); rintro e wa ⟨rfl, hma⟩; replace hma := hide ((Mod.refl NoB wr).drew.trans hma))
          | (go_at_call 41; (with_reducible refine (hnote.out _ hma.out).mono ?_); rintro e wb ⟨⟨rr, rfl⟩, L', hq', hL', hf', hdb, hmb⟩; replace hq' := hide hq'; replace hf' := hide hf'; replace hdb := hide hdb; have hmc := hide ((hma.out.mono (fun _ _ f => f.elim)).trans hmb); replace hmb := hide hmb; replace hL' := hide hL'))
      go_wp2_with fail
      go_roundw
      case rel => exact ⟨j + 1, L', by go_num, by omega, (hdj.out.quiet hma.out).set hmb.out hdb.out hnf3.out, hq'.out, hL'.out, hf'.out⟩
      case measure => simp; omega
    · have hje : j = N := by omega
      subst hje
      have hki : ¬ ((j : Int) < j) := by omega
      have hL0 : L.length = j := hL.trans hN.out
      have hat7 : atR d7.k h = (d7.k.at h, 0) := by
        have h1 := hok7.out.h0
        rw [h7.out] at h1
        unfold atR
        rw [if_neg (by omega), if_neg (by omega)]
      obtain ⟨ck, hck⟩ : ∃ ck, (d7.k.at h).c = ck := ⟨_, rfl⟩
      have hread : ∀ wx, Mod NoB wr wx → Calls Tryz.prog 46 #[at0 P7.bk, .int .i64 h] wx fun e w' => e = .returned (.tuple #[.int .i64 ck, .int .i64 0]) ∧ Mod NoB wx w' := fun wx hm => by
        have := kread_any P7.bk d7.k hok7.out.k h ⟨by omega, by omega⟩ wx (hdj.d.quiet hm).clk
        rw [hat7] at this
        simp only [hck] at this
        exact this
      have k6 := cell_of_block hbj 6 (v := at0 P7.bk) rfl
      have j1 := cell_of_block hdj.ev 1 (v := .int .i64 h) rfl
      have hfin : wakeS d7.ps = wakeS d7.ps := rfl
      have n8 : ¬ P.b = b8 := fun e => (hnf3.out P.b (by rw [← hPb.out]; exact .b)).2.2 e
      have nev : ¬ w.heap.size = b8 := fun e => by omega
      replace hread := hide hread
      replace hdj := hide hdj
      replace hq := hide hq
      replace hL := hide hL
      replace hf := hide hf
      replace hbj := hide hbj
      replace hck := hide hck
      replace n8 := hide n8
      replace nev := hide nev
      replace hL0 := hide hL0
      clear hat7 hfin hj k7
      go_wp2_with fail
      go_region_held3 (fun w' => w'.cell? ⟨P.b, 6, none⟩ = some (at0 P7.bk) ∧ w'.cell? ⟨w.heap.size, 1, none⟩ = some (.int .i64 h))
        (first | with_reducible exact ⟨k6, j1⟩ | with_reducible exact ⟨hmc.out.cellAt id k6, hmc.out.cellAt id j1⟩ | with_reducible exact ⟨(hmc2.out.set1 _ _).cellAt n8.out k6, (hmc2.out.set1 _ _).cellAt nev.out j1⟩ | go_keep)
        ((go_at_call 46; (with_reducible refine (hread.out _ (Mod.refl NoB wr).drew).mono ?_); rintro e wc ⟨rfl, hmc⟩; replace hmc := hide ((Mod.refl NoB wr).drew.trans hmc); have hmc2 := hide (hmc.out.mono (T := (· = b8)) (fun _ _ f => f.elim)); have hoc := (hdj.out.quiet hmc.out).o; have x1 := cell_of_block hoc 1 (v := .int .i64 0) rfl; have f1 := frozen_of_block hoc 1; replace hoc := hide hoc))
      have hs1 : Mod (· = b8) wc (wc.setCell ⟨b8, 1, none⟩ (.int .i64 ck)) := (Mod.refl _ _).set1 _ _
      have hb1 : (wc.setCell ⟨b8, 1, none⟩ (.int .i64 ck)).heap[b8]? = some (.cells #[.slice vp Ls.length vc, .int .i64 ck, .int .i64 0, .int .i64 r] 44 (0, 0)) := by
        have := heap_setCell_eq hoc.out (o := 1) (.int .i64 ck)
        simpa using this
      have hdk := (hdj.out.quiet hmc.out).box hs1 hb1 (fun x hx => (hnf3.out x hx).2.2) (by omega) rfl
      have hqk := (hq.out.mod hmc.out id id).mod hs1 (fun e => (hnf3.out P7.bq .bq).2.2 e) (fun e => (hnf3.out P7.bqm .bqm).2.2 e)
      obtain ⟨wd, hwd⟩ : ∃ wd, wc.setCell ⟨b8, 1, none⟩ (.int .i64 ck) = wd := ⟨_, rfl⟩
      rw [hwd] at hdk hqk
      have hbd := hdk.d.blk
      rw [hPb.out] at hbd
      have k9 := cell_of_block hbd 9 (v := at0 P7.bq) rfl
      have hnxt := hide (qnext_any P7.bq P7.bqm L (by have := hL0.out; omega) (by have := hL0.out; omega) wd hqk)
      replace hdk := hide hdk
      replace hbd := hide hbd
      clear hs1 hb1 hqk hmc hmc2 hoc x1 f1 k6 j1 hread
      go_wp2_with fail
      refine hnxt.out.mono ?_
      rintro e we ⟨⟨v9, rfl, hmin⟩, hme⟩
      have hv9 : v9 = wakeS d7.ps := wakeS_min hmin hL.out (by rw [hN.out]; exact hf.out)
      have hdl := hdk.out.quiet hme
      have x2 := cell_of_block hdl.o 2 (v := .int .i64 0) rfl
      have f2 := frozen_of_block hdl.o 2
      have hs2 : Mod (· = b8) we (we.setCell ⟨b8, 2, none⟩ (.int .i64 v9)) := (Mod.refl _ _).set1 _ _
      have hb2 : (we.setCell ⟨b8, 2, none⟩ (.int .i64 v9)).heap[b8]? = some (.cells #[.slice vp Ls.length vc, .int .i64 ck, .int .i64 v9, .int .i64 r] 44 (0, 0)) := by
        have := heap_setCell_eq hdl.o (o := 2) (.int .i64 v9)
        simpa using this
      have hdm := hdl.box hs2 hb2 (fun x hx => (hnf3.out x hx).2.2) (by omega) rfl
      obtain ⟨wf, hwf⟩ : ∃ wf, we.setCell ⟨b8, 2, none⟩ (.int .i64 v9) = wf := ⟨_, rfl⟩
      rw [hwf] at hdm
      obtain ⟨a0, a1, a2, a3, -⟩ := four_of hdm.o
      obtain ⟨x0, x1, x2', x3, f0, f1, f2', f3⟩ := four_of hdm.out
      have hms := Mod.set4x (S := (· = w.heap.size + 1)) (Mod.refl _ wf) (Or.inl rfl) (.slice vp Ls.length vc) (.int .i64 ck) (.int .i64 v9) (.int .i64 r)
      have hof := set4_heap hdm.out (.slice vp Ls.length vc) (.int .i64 ck) (.int .i64 v9) (.int .i64 r)
      unfold set4 at hof
      have hde := hdm.d.apart hms (fun x hx hf => (hnf3.out x hf).2.1 hx)
      have hte := hdm.t.own hms (fun x hx => by omega)
      have hse := hdm.s.keep hms (T := [some 44]) (fun x hx ob hob => by rw [hx, hdm.out] at hob; cases hob; simp [tyOf]) (by decide) (by decide)
      obtain ⟨wl, hwl⟩ : ∃ wl, ((((wf.setCell ⟨w.heap.size + 1, 0, none⟩ (.slice vp Ls.length vc)).setCell ⟨w.heap.size + 1, 1, none⟩ (.int .i64 ck)).setCell ⟨w.heap.size + 1, 2, none⟩ (.int .i64 v9)).setCell ⟨w.heap.size + 1, 3, none⟩ (.int .i64 r)) = wl := ⟨_, rfl⟩
      rw [hwl] at hof hde hte hse
      replace hof := hide hof
      replace hde := hide hde
      replace hte := hide hte
      replace hse := hide hse
      replace hv9 := hide hv9
      replace hdm := hide hdm
      clear hms hmin hme hdl hs2 hb2 hnxt k9
      go_wp2_with fail
      obtain ⟨y0, y1, y2, y3, -⟩ := four_of hof.out
      rw [hv9.out] at y2
      exact bodyPost_ret (v := .tuple #[.agg #[.slice vp Ls.length vc, .int .i64 ck, .int .i64 (wakeS d7.ps), .int .i64 r], .int .i64 0]) (by simp [results, Tryz.results14, go_sem, y0, y1, y2, y3]) rfl ⟨_, P7, by rw [hck.out], hde.out, hte.out, hse.out⟩
end Go.Proofs.YtpjfiplejhbdfaaGreatDoor

namespace Go.Proofs.YtpjfiplejhbdfaaGreatDoor
set_option linter.unusedSimpArgs false
open Go.RowKit

theorem DataAt.modS {S : Nat → Prop} {w w' : World} {v : Value} {l : List Nat} (h : DataAt w v l) (hm : Mod S w w') (hS : ∀ bd off n c, v = .slice (some ⟨bd, off, none⟩) n c → 0 < l.length → ¬ S bd) : DataAt w' v l := by
  obtain ⟨p, c, h1, h2, h3⟩ := h
  exact ⟨p, c, h1, h2, fun h0 => let ⟨bd, off, a, b, c', d⟩ := h3 h0; ⟨bd, off, a, b, c', d.mod hm (hS bd off _ _ (by rw [h1, a]) h0)⟩⟩
theorem do_any (P : DPl) (d : DaemonS) (hok : d.Ok) {N : Int} (hc : d.Cnt N) (hN : N ≤ 9007199254740992) (k h a : Int) (hk : I64 k) (hh : I64 h) (draw : Nat) (hdr : draw < 18446744073709551616) (p : Option Addr) (n c : Nat) (l : List Nat) (w : World) (hd : DO w P d)
    (hdv : DataAt w (.slice p n c) l) (hap : ∀ bd off, p = some ⟨bd, off, none⟩ → 0 < l.length → ¬ bd = P.b) :
    Calls Tryz.prog 14 #[at0 P.b, evV k h a draw (.slice p n c)] w (DoPost P (doS d ⟨k, h, a, draw, l⟩).1 (doS d ⟨k, h, a, draw, l⟩).2 (errS d ⟨k, h, a, draw, l⟩) w) := by
  by_cases he : errS d ⟨k, h, a, draw, l⟩ = 0
  · obtain ⟨hkk, h0, h1, h2⟩ := err_none he
    have hkk : k = 0 ∨ k = 1 := hkk
    have h0 : 0 ≤ h := h0
    have h1 : h ≤ 4611686018427387903 := h1
    have h2 : d.h ≤ h := h2
    have hw := hok.withH h2 h1
    rw [he]
    rcases hkk with rfl | rfl
    · have hres : doS d ⟨0, h, a, draw, l⟩ = ((tickS { d with h := h } h draw).1, ⟨(tickS { d with h := h } h draw).2, ((tickS { d with h := h } h draw).1.k.at h).c, wakeS (tickS { d with h := h } h draw).1.ps, 0⟩) := by
        unfold doS
        rw [if_neg (by rw [he]; simp), if_pos rfl]
      rw [hres]
      refine do_mid P d (tickS { d with h := h } h draw).1 hok (hw.tick rfl hdr) 0 h a (Or.inl rfl) h0 h1 h2 rfl draw p n c (tickS { d with h := h } h draw).2 0 w hd 44 rfl (enters_of Tryz.func44 (by kernel_rfl) rfl) ?_
      intro w6 hd6 hm6
      refine (tick_any P { d with h := h } hw 0 h a rfl draw hdr p n c w6 hd6).mono ?_
      rintro e w' ⟨v, rfl, g1, g2, g3⟩
      exact ⟨v, P, rfl, g1, g2, g3.lower (by omega)⟩
    · have hres : doS d ⟨1, h, a, draw, l⟩ = ((datagramS { d with h := h } h a l).1, ⟨[], ((datagramS { d with h := h } h a l).1.k.at h).c, wakeS (datagramS { d with h := h } h a l).1.ps, (datagramS { d with h := h } h a l).2⟩) := by
        unfold doS
        rw [if_neg (by rw [he]; simp), if_neg (by show ¬ (1 : Int) = 0; decide)]
      rw [hres]
      have hr := hear_rest { d with h := h } h a l
      refine do_mid P d (datagramS { d with h := h } h a l).1 hok (hw.datagram rfl a l (N := N) hc hN).1 1 h a (Or.inr rfl) h0 h1 h2 hr.2.2.1 draw p n c [] (datagramS { d with h := h } h a l).2 w hd 45 rfl (enters_of Tryz.func45 (by kernel_rfl) rfl) ?_
      intro w6 hd6 hm6
      refine (datagram_any P { d with h := h } hw (N := N) hc hN 1 h a rfl draw p n c l w6 hd6 (hdv.modS hm6 (fun bd off n' c' e h0' => ?_))).mono ?_
      · obtain ⟨e1, _, _⟩ := Value.slice.inj e
        exact hap bd off e1 h0'
      · rintro e w' ⟨rfl, P', g1, g2⟩
        exact ⟨_, P', rfl, g1, g2, .nil _ _⟩
  · have hres : doS d ⟨k, h, a, draw, l⟩ = (d, out0) := by
      unfold doS
      rw [if_pos he]
    rw [hres]
    exact do_err P d hok k h a hk hh draw p n c l w hd he
end Go.Proofs.YtpjfiplejhbdfaaGreatDoor

namespace Go.Proofs.YtpjfiplejhbdfaaGreatDoor
set_option linter.unusedSimpArgs false
open Go.RowKit

/-- The text of bytes. -/
def strB (l : List Nat) : ByteArray := strOfNums (l.map fun c : Nat => (c : Int))
theorem conv_bytes {w : World} {b off len cap : Nat} {l : List Nat} (hl : l.length = len) (h : BytesAt w b off l) :
    (convert 36 9 (.slice (some ⟨b, off, none⟩) len cap)).run Tryz.prog w = .ok (.string (strB l)) w := by
  refine run_convert_bytes_arg (P := Tryz.prog) w 36 5 Tryz.underlying36 Tryz.underlying5 b off len cap (l.map fun c : Nat => (c : Int)) (by simpa using hl) (fun i hi => ?_) 9 Tryz.underlying9
  have hil : i < l.length := by omega
  rw [h.cell i hil]
  simp [List.getD, hil]
theorem own_data {w : World} {base : Nat} {u : Value} {l : List Nat} (h : w.ownsRow base 5 1 u l.length (bcells l)) (hl : ∀ c ∈ l, c < 256) (h0 : 0 < l.length) :
    ∃ g c, u = .slice (some ⟨g, 0, none⟩) l.length c ∧ base ≤ g ∧ l.length ≤ c ∧ c ≤ 9223372036854775807 ∧ BytesAt w g 0 l := by
  rcases h.2 with ⟨_, h1⟩ | ⟨g, cap, cur, hv, hb, hg, h3, h4, h5, htk⟩
  · omega
  · refine ⟨g, cap, hv, hb, h3, by unfold maxLen at h4; omega, ⟨fun j hj => ?_, hl⟩⟩
    rw [Nat.zero_add]
    refine cell_of_block hg j ?_
    have hx : (bcells l)[j]? = some (.int .u8 ((l.getD j 0 : Nat) : Int)) := by simp [bcells, List.getD, hj]
    rw [← htk, List.getElem?_take_of_lt (by omega), Array.getElem?_toList] at hx
    exact hx
theorem own_dataAt {w : World} {base : Nat} {u : Value} {l : List Nat} (h : w.ownsRow base 5 1 u l.length (bcells l)) (hl : ∀ c ∈ l, c < 256) (h0 : 0 < l.length) (h9 : l.length ≤ 9223372036854775807) : DataAt w u l := by
  obtain ⟨g, c, h1, _, h2, h3, h4⟩ := own_data h hl h0
  exact ⟨_, c, h1, h9, fun _ => ⟨g, 0, rfl, h2, h3, h4⟩⟩
/-- Send i of a row. -/
theorem sends_at {w : World} {base : Nat} {v : Value} {L : List (Int × List Nat)} (h : SendsAt w base v L) {i : Nat} {x : Int × List Nat} (hx : L[i]? = some x) :
    ∃ g c u, v = .slice (some ⟨g, 0, none⟩) L.length c ∧ base ≤ g ∧ w.cell? ⟨g, i * 2, none⟩ = some (.int .i64 x.1) ∧ w.cell? ⟨g, i * 2 + 1, none⟩ = some u ∧ w.ownsRow base 5 1 u x.2.length (bcells x.2) := by
  obtain ⟨vs, hl, hr, hd⟩ := h
  have hi : i < L.length := (List.getElem?_eq_some_iff.1 hx).1
  obtain ⟨u, hu⟩ : ∃ u, vs[i]? = some u := ⟨vs[i]'(by omega), List.getElem?_eq_getElem (by omega)⟩
  have key : ∀ (M : List ((Int × List Nat) × Value)) (i : Nat) (y : (Int × List Nat) × Value), M[i]? = some y → (M.flatMap fun x => [Value.int .i64 x.1.1, x.2])[i * 2]? = some (.int .i64 y.1.1) ∧ (M.flatMap fun x => [Value.int .i64 x.1.1, x.2])[i * 2 + 1]? = some y.2 := by
    intro M
    induction M with
    | nil => intro i y h; simp at h
    | cons z M ih =>
      intro i y h
      cases i with
      | zero =>
        cases h
        exact ⟨rfl, rfl⟩
      | succ i =>
        have := ih i y (by simpa using h)
        rw [List.flatMap_cons, show (i + 1) * 2 = i * 2 + 2 by omega]
        exact ⟨by simpa using this.1, by simpa using this.2⟩
  obtain ⟨k1, k2⟩ := key (L.zip vs) i (x, u) (by simp [List.getElem?_zip_eq_some, hx, hu])
  have hlen := sendCells_len hl
  rcases hr.2 with ⟨_, h1⟩ | ⟨g, cap, cur, hv, hb, hg, h3, h4, h5, htk⟩
  · omega
  · refine ⟨g, cap, u, hv, hb, cell_of_block hg _ ?_, cell_of_block hg _ ?_, hd i x u hx hu⟩
    · have k1 : (sendCells L vs)[i * 2]? = _ := k1
      rw [← htk, List.getElem?_take_of_lt (by omega), Array.getElem?_toList] at k1
      exact k1
    · have k2 : (sendCells L vs)[i * 2 + 1]? = _ := k2
      rw [← htk, List.getElem?_take_of_lt (by omega), Array.getElem?_toList] at k2
      exact k2
/-- The types of a daemon's blocks, but for the servers' row, which is an elder one. -/
def TD : List (Option TypeId) := [tDmn, tClk, tPeer, tBk, tSto, tRing, tSmp, tQue, none, tCnt, tPP, tPS, tVote]
theorem fpD_type {w : World} {P : DPl} {d : DaemonS} (h : DO w P d) {k : Nat} (hk : fpD P k) : (∀ o, w.heap[k]? = some o → tyOf o ∈ TD) ∨ k < P.lo := by
  have one : ∀ {c : Array Value} {t : TypeId} {f : Nat × Nat}, w.heap[k]? = some (.cells c t f) → some t ∈ TD → ∀ o, w.heap[k]? = some o → tyOf o ∈ TD := fun h1 h2 o ho => by
    rw [h1] at ho; cases ho; exact h2
  obtain ⟨L, hq, _⟩ := h.que
  rcases hk with rfl | rfl | hk | hk | rfl | rfl | rfl | hk | hk | hk | ⟨off, hk⟩
  · exact Or.inl (one h.blk (by decide))
  · exact Or.inl (one h.clk (by decide))
  · obtain ⟨x, hx, hk⟩ := hk
    obtain ⟨i, hi⟩ := List.mem_iff_getElem?.1 hx
    have hlt : i < d.ps.length := by rw [← h.pn]; exact (List.getElem?_eq_some_iff.1 hi).1
    have hp := h.peer i x d.ps[i] hi (by simp [hlt])
    obtain ⟨t, hb⟩ := hp.bo
    rcases hk with rfl | rfl
    · exact Or.inl (one hp.pb (by decide))
    · exact Or.inl (one hb (by decide))
  · obtain ⟨s, hs, hk⟩ := hk
    have hst := h.store s hs
    obtain ⟨c0, _, hrb⟩ := hst.ring.blk
    rcases hk with rfl | rfl | hk
    · exact Or.inl (one hst.blk (by decide))
    · exact Or.inl (one hrb (by decide))
    · obtain ⟨cur, hcur⟩ := own_block hst.ring.row hk
      exact Or.inl (one hcur (by decide))
  · obtain ⟨n, hn⟩ := hq.blk
    exact Or.inl (one hn (by decide))
  · exact Or.inl fun o ho => by rw [hq.map] at ho; cases ho; simp [tyOf, TD]
  · exact Or.inl (one h.cnt.1 (by decide))
  · obtain ⟨cur, hcur⟩ := own_block h.prow hk
    exact Or.inl (one hcur (by decide))
  · obtain ⟨cur, hcur⟩ := own_block h.srow hk
    exact Or.inl (one hcur (by decide))
  · obtain ⟨cur, hcur⟩ := own_block h.vrow hk
    exact Or.inl (one hcur (by decide))
  · exact Or.inr (h.srvl k off hk)
/-- A block of another type, made behind the daemon, stays behind a Do. -/
theorem DO.keepc {w w' : World} {P : DPl} {d : DaemonS} (h : DO w P d) (hm : Mod (fpD P) w w') {k : Nat} {c : Array Value} {t : TypeId} {f : Nat × Nat} (hk : w.heap[k]? = some (.cells c t f)) (hb : P.b ≤ k) (ht : some t ∉ TD) : w'.heap[k]? = some (.cells c t f) :=
  hm.heap hk (fun hf => by
    rcases fpD_type h hf with h1 | h1
    · exact ht (h1 _ hk)
    · have := h.los.1; omega)
theorem DO.keepRow {w w' : World} {P : DPl} {d : DaemonS} (h : DO w P d) (hm : Mod (fpD P) w w') {base size n : Nat} {e : TypeId} {v : Value} {xs : List Value} (hr : w.ownsRow base e size v n xs) (hb : P.b ≤ base) (ht : some e ∉ TD) : w'.ownsRow base e size v n xs :=
  ownsRow_mod2 hr hm (fun g hg hf => by
    obtain ⟨cur, hcur⟩ := own_block hr hg
    have := own_from hr hg
    rcases fpD_type h hf with h1 | h1
    · exact ht (h1 _ hcur)
    · have := h.los.1; omega)
theorem DO.keepSends {w w' : World} {P : DPl} {d : DaemonS} (h : DO w P d) (hm : Mod (fpD P) w w') {base : Nat} {v : Value} {L : List (Int × List Nat)} (hs : SendsAt w base v L) (hb : P.b ≤ base) : SendsAt w' base v L := by
  obtain ⟨vs, hl, hr, hd⟩ := hs
  exact ⟨vs, hl, h.keepRow hm hr hb (by decide), fun i x u hx hu => h.keepRow hm (hd i x u hx hu) hb (by decide)⟩
end Go.Proofs.YtpjfiplejhbdfaaGreatDoor

