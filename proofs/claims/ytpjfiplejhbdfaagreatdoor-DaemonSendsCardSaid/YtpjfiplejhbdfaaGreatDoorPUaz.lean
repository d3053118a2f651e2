/- daemon.hear, daemon.datagram (contracts). daemon.tick (contract). -/
import Derived.Test.YtpjfiplejhbdfaaGreatDoorPUay
import Derived.Deep.AppendLies
namespace Go.Proofs.YtpjfiplejhbdfaaGreatDoor
set_option linter.unusedSimpArgs false
open Go.RowKit

/-- A slice of bytes. -/
def DataAt (w : World) (v : Value) (l : List Nat) : Prop :=
  ∃ p c, v = .slice p l.length c ∧ l.length ≤ 9223372036854775807 ∧ (0 < l.length → ∃ bd off, p = some ⟨bd, off, none⟩ ∧ l.length ≤ c ∧ c ≤ 9223372036854775807 ∧ BytesAt w bd off l)
theorem DataAt.mod {w w' : World} {v : Value} {l : List Nat} (h : DataAt w v l) (hm : Mod NoB w w') : DataAt w' v l := by
  obtain ⟨p, c, h1, h2, h3⟩ := h
  exact ⟨p, c, h1, h2, fun h0 => let ⟨bd, off, a, b, c, d⟩ := h3 h0; ⟨bd, off, a, b, c, d.mod hm id⟩⟩
theorem hear_any (P : DPl) (d : DaemonS) (hok : d.Ok) (k h a : Int) (hdh : d.h = h) (draw : Nat) (dv : Value) (l : List Nat) (w : World) (hd : DO w P d) (hdv : DataAt w dv l) :
    Calls Tryz.prog 79 #[at0 P.b, evV k h a draw dv] w (HearPost P (hearS d h a l).1 (hearS d h a l).2 w) := by
  obtain ⟨p, c, rfl, hl, hb⟩ := hdv
  by_cases h48 : l.length < 48
  · have e : hearS d h a l = (d, 1) := by unfold hearS; rw [if_pos h48]
    rw [e]
    refine (hear_short P k h a draw p l.length c (by omega) w).mono ?_
    rintro e w' ⟨rfl, hm⟩
    exact ⟨rfl, P, hd.quiet hm, .quiet hm⟩
  · have hl16 := srv_le hok.c
    by_cases hu : placeOf a d.c.srv = d.c.srv.length
    · have e : hearS d h a l = (d, 2) := by unfold hearS; rw [if_neg h48, if_pos hu]
      rw [e]
      refine (hear_unknown P d (by omega) k h a draw p l.length c (by omega) w hd hu).mono ?_
      rintro e w' ⟨rfl, hm⟩
      exact ⟨rfl, P, hd.quiet hm, .quiet hm⟩
    · obtain ⟨bd, off, rfl, h1, h2, h3⟩ := hb (by omega)
      exact hear_at P d hok k h a hdh draw bd off c l (by omega) h1 h2 w hd h3 (placeOf a d.c.srv) rfl (by have := place_le a d.c.srv; omega)
theorem DO.add {w : World} {P : DPl} {d : DaemonS} (hd : DO w P d) (hok : d.Ok) {N : Int} (hc : d.Cnt N) (hN : N ≤ 9007199254740992) (why : Int) (h0 : 0 ≤ why) (h1 : why ≤ 12) :
    Calls Tryz.prog 80 #[at0 P.bc, .int .i64 why] w fun e w' => e = .returned (.int .i64 0) ∧ DO w' P { d with n := bumpS d.n why } ∧ Mod (· = P.bc) w w' := by
  have := co_add_any P.bc why.toNat d.n w hd.cnt (by omega) (hok.nn _) (Int.le_trans (hc _) hN)
  rw [show ((why.toNat : Nat) : Int) = why by omega, ← bump_eq hok hc hN] at this
  refine this.mono ?_
  rintro e w' ⟨rfl, hk, hm⟩
  exact ⟨rfl, hd.counts hm hk, hm⟩
theorem DTo.own {P P1 : DPl} {w w1 w2 : World} {S : Nat → Prop} (h : DTo P P1 w w1) (hm : Mod S w1 w2) (hS : ∀ k, S k → w.heap.size ≤ k) : DTo P P1 w w2 :=
  ⟨h.b, h.m.into hm (fun k hk => Or.inr (hS k hk)), h.f⟩
/-- What datagram leaves. -/
def DgPost (P : DPl) (d : DaemonS) (r : Int) (w : World) (e : Ending) (w' : World) : Prop :=
  e = .returned (.agg #[.slice none 0 0, .int .i64 0, .int .i64 0, .int .i64 r]) ∧ ∃ P', DO w' P' d ∧ DTo P P' w w'
set_option maxRecDepth 100000 in
set_option maxHeartbeats 8000000 in
theorem datagram_any (P : DPl) (d : DaemonS) (hok : d.Ok) {N : Int} (hc : d.Cnt N) (hN : N ≤ 9007199254740992) (k h a : Int) (hdh : d.h = h) (draw : Nat) (p : Option Addr) (n c : Nat) (l : List Nat) (w : World) (hd : DO w P d) (hdv : DataAt w (.slice p n c) l) :
    Calls Tryz.prog 45 #[at0 P.b, evV k h a draw (.slice p n c)] w (DgPost P (datagramS d h a l).1 (datagramS d h a l).2 w) := by
  obtain ⟨D, R, hDR⟩ : ∃ D R, hearS d h a l = (D, R) := ⟨_, _, rfl⟩
  have hDok : D.Ok := by have := hok.hear hdh a l; rw [hDR] at this; exact this
  have hrest := hear_rest d h a l
  have hwhy := hear_why d h a l
  rw [hDR] at hrest hwhy
  have hDc : D.Cnt N := fun k => by rw [hrest.1]; exact hc k
  have hres : datagramS d h a l = ({ D with n := bumpS D.n R }, R) := by unfold datagramS; rw [hDR]
  rw [hres]
  have hh := fun w2 (hm : Mod NoB w w2) => hear_any P d hok k h a hdh draw (.slice p n c) l w2 (hd.quiet hm) (hdv.mod hm)
  simp only [hDR] at hh
  obtain ⟨hw0, hw1⟩ := hwhy
  have hlw := hide hd.lt
  replace hh := hide hh
  replace hDok := hide hDok
  replace hDc := hide hDc
  clear hrest hDR hres hdv hok hc hdh
  replace hd := hide hd
  go_enter Tryz.func45, Tryz.ntmps45
  go_wp2_with fail
  have hlt2 := hlw.out
  refine (hh.out _ (((Mod.refl _ _).alloc _).alloc _)).mono ?_
  rintro e w2 ⟨rfl, P2, hd2, ht2⟩
  have ho := ht2.m.heap (heap_alloc_new (w.alloc (.cells #[.int .i64 k, .int .i64 h, .int .i64 a, .int .u64 (draw : Int), .slice p n c] 38)) (.cells #[.slice none 0 0, .int .i64 0, .int .i64 0, .int .i64 0] 44)) (fun f => by have := hlt2 _ f; simp at this; omega)
  rw [World.size_alloc] at ho
  have hb2 := ht2.b
  have hblk2 := hd2.blk
  rw [hb2] at hblk2
  have k10 := cell_of_block hblk2 10 (v := at0 P2.bc) rfl
  have hadd := hd2.add hDok.out hDc.out hN R hw0 hw1
  have hnf : ∀ k, fpD P2 k → k ≠ w.heap.size + 1 := fun k hk e => by
    rcases ht2.f k hk with h1 | h1
    · have := hlt2 _ h1; omega
    · simp at h1
      omega
  have hnc : ¬ (w.heap.size + 1 = P2.bc) := fun e => hnf _ .bc e.symm
  replace hnf := hide hnf
  have htt : DTo P P2 w w2 := (DTo.quiet (((Mod.refl _ _).alloc _).alloc _)).trans ht2
  replace htt := hide htt
  replace hadd := hide hadd
  replace ho := hide ho
  replace hnc := hide hnc
  clear hlt2 ht2 hblk2 hb2 hd2 hh hlw hd
  go_wp2_with fail
  refine hadd.out.mono ?_
  rintro e w3 ⟨rfl, hd3, hm3⟩
  have ho3 := hm3.heap ho.out hnc.out
  obtain ⟨x0, x1, x2, x3, f0, f1, f2, f3⟩ := four_of ho3
  have hms := Mod.set4x (S := (· = w.heap.size + 1)) (Mod.refl _ w3) (Or.inl rfl) (.slice none 0 0) (.int .i64 0) (.int .i64 0) (.int .i64 R)
  have hof := set4_heap ho3 (.slice none 0 0) (.int .i64 0) (.int .i64 0) (.int .i64 R)
  unfold set4 at hof
  obtain ⟨wl, hwl⟩ : ∃ wl, ((((w3.setCell ⟨w.heap.size + 1, 0, none⟩ (.slice none 0 0)).setCell ⟨w.heap.size + 1, 1, none⟩ (.int .i64 0)).setCell ⟨w.heap.size + 1, 2, none⟩ (.int .i64 0)).setCell ⟨w.heap.size + 1, 3, none⟩ (.int .i64 R)) = wl := ⟨_, rfl⟩
  rw [hwl] at hms hof
  have hms2 : Hid (DO wl P2 { D with n := bumpS D.n R } ∧ DTo P P2 w wl) := hide ⟨hd3.apart hms (fun k hk hf => hnf.out k hf hk), (htt.out.trans (.of hm3 (fun k hk => hk ▸ .bc))).own hms (fun k hk => by omega)⟩
  replace hof := hide hof
  replace ho3 := hide ho3
  clear hm3 hms hadd k10 hd3
  go_wp2_with fail
  have y := four_of hof.out
  obtain ⟨y0, y1, y2, y3, -⟩ := y
  exact bodyPost_ret (v := .agg #[.slice none 0 0, .int .i64 0, .int .i64 0, .int .i64 R]) (by simp [results, Tryz.results45, go_sem, y0, y1, y2, y3]) rfl ⟨rfl, P2, hms2.out.1, hms2.out.2⟩
end Go.Proofs.YtpjfiplejhbdfaaGreatDoor

namespace Go.Proofs.YtpjfiplejhbdfaaGreatDoor
set_option linter.unusedSimpArgs false
open Go.RowKit

theorem mapTo_same {f : PeerS → PeerS} {ps : List PeerS} {k : Nat} {p : PeerS} (h : ps[k]? = some p) (hf : f p = p) : mapTo f ps (k + 1) = mapTo f ps k := by
  rw [← mapTo_set h, hf]
  have hg := mapTo_get (f := f) h
  apply List.ext_getElem?
  intro j
  rw [List.getElem?_set]
  split
  · rename_i e
    subst e
    split
    · exact hg.symm
    · rename_i hlt
      rw [List.getElem?_eq_none (by omega)] at hg
      cases hg
  · rfl
theorem cells2_new (w : World) (x y : Value) (t : TypeId) : ∀ j v, [x, y][j]? = some v → (w.alloc (.cells #[x, y] t)).cell? ((⟨w.heap.size, 0, none⟩ : Addr).add j) = some v := by
  intro j v hj
  have hn := heap_alloc_new w (.cells #[x, y] t)
  rw [show ((⟨w.heap.size, 0, none⟩ : Addr).add j) = ⟨w.heap.size, j, none⟩ by simp [Addr.add]; omega]
  exact cell_of_block hn j (by simpa using hj)
theorem sends_snoc {w w7 : World} {base : Nat} {v v' u : Value} {L : List (Int × List Nat)} {vs : List Value} {x : Int × List Nat} (hl : vs.length = L.length) (hr : w.ownsRow base 48 2 v L.length (sendCells L vs))
    (hd : ∀ (i : Nat) (x : Int × List Nat) (u : Value), L[i]? = some x → vs[i]? = some u → w.ownsRow base 5 1 u x.2.length (bcells x.2)) (hu : w.ownsRow base 5 1 u x.2.length (bcells x.2))
    (hm : Mod (fun k => v.ownBlock = some k) w w7) (hown : w7.ownsRow base 48 2 v' (L.length + 1) (sendCells L vs ++ [.int .i64 x.1, u])) : SendsAt w7 base v' (L ++ [x]) := by
  have keep : ∀ (y : Value) (n : Nat) (xs : List Value), w.ownsRow base 5 1 y n xs → w7.ownsRow base 5 1 y n xs := fun y n xs hy => ownsRow_mod2 hy hm (fun g hg e => by
    obtain ⟨c1, h1⟩ := own_block hy hg
    obtain ⟨c2, h2⟩ := own_block hr e
    exact ne_type h1 h2 (by decide) rfl)
  refine ⟨vs ++ [u], by simp [hl], ?_, ?_⟩
  · rw [sendCells_snoc hl, List.length_append]
    exact hown
  · intro i y z hy hz
    rcases Nat.lt_or_ge i L.length with hi | hi
    · rw [List.getElem?_append_left hi] at hy
      rw [List.getElem?_append_left (by omega)] at hz
      exact keep _ _ _ (hd i y z hy hz)
    · have hi2 : i = L.length := by
        have := (List.getElem?_eq_some_iff.1 hy).1
        simp at this
        omega
      subst hi2
      simp at hy
      rw [← hl] at hz
      simp at hz
      subst hy
      subst hz
      exact keep _ _ _ hu
set_option maxRecDepth 100000 in
set_option maxHeartbeats 8000000 in
theorem tick_any (P : DPl) (d : DaemonS) (hok : d.Ok) (k h a : Int) (hdh : d.h = h) (draw : Nat) (hdr : draw < 18446744073709551616) (p : Option Addr) (n c : Nat) (w : World) (hd : DO w P d) :
    Calls Tryz.prog 44 #[at0 P.b, evV k h a draw (.slice p n c)] w (TickPost P (tickS d h draw).1 (tickS d h draw).2 w) := by
  have hh1 : h ≤ 4611686018427387903 := by have := hok.h1; omega
  have hk0 := hok.k.h0
  have hh0 : d.k.h ≤ h := by have := hok.h0; omega
  have hh : I64 h := ⟨by omega, by omega⟩
  have hat : atR d.k h = (d.k.at h, 0) := by
    unfold atR
    rw [if_neg (by omega), if_neg (by omega)]
  have hlw := hide hd.lt
  -- the draw
  obtain ⟨d1, hd1⟩ : ∃ d1, ({ d with draw := drawOf d draw } : DaemonS) = d1 := ⟨_, rfl⟩
  have hok1 : d1.Ok := hd1 ▸ ⟨hok.c, hok.k, hok.p, drawOf_lt hok hdr, hok.s, hok.pn, hok.sn, hok.n, hok.nn, hok.h0, hok.h1⟩
  obtain ⟨ev, hev⟩ : ∃ ev, Obj.cells #[.int .i64 k, .int .i64 h, .int .i64 a, .int .u64 (draw : Int), .slice p n c] 38 (0, 0) = ev := ⟨_, rfl⟩
  replace hev := hide hev
  have k11 := cell_of_block hd.blk 11 (v := .int .u64 (d.draw : Int)) rfl
  have z11 := frozen_of_block hd.blk 11
  have hlb := lt_of_block hd.blk
  have hblk := hd.blk
  replace hd := hide hd
  replace hd1 := hide hd1
  have hat0 := hide hat
  clear hat
  replace hblk := hide hblk
  replace hok1 := hide hok1
  replace hok := hide hok
  replace hdh := hide hdh
  go_enter Tryz.func44, Tryz.ntmps44
  go_upto_if 15 with (fail)
  go_cut [] (fun wx => TickAt P w ev (.slice none 0 0) [] d1 wx)
  case first =>
    have hm2 : Mod NoB w ((w.alloc (.cells #[.int .i64 k, .int .i64 h, .int .i64 a, .int .u64 (draw : Int), .slice p n c] 38)).alloc (.cells #[.slice none 0 0, .int .i64 0, .int .i64 0, .int .i64 0] 44)) := ((Mod.refl _ _).alloc _).alloc _
    have he2 := (heap_alloc_old (w := w.alloc (.cells #[.int .i64 k, .int .i64 h, .int .i64 a, .int .u64 (draw : Int), .slice p n c] 38)) (by simp) (.cells #[.slice none 0 0, .int .i64 0, .int .i64 0, .int .i64 0] 44)).trans (heap_alloc_new w (.cells #[.int .i64 k, .int .i64 h, .int .i64 a, .int .u64 (draw : Int), .slice p n c] 38))
    have ho2 := heap_alloc_new (w.alloc (.cells #[.int .i64 k, .int .i64 h, .int .i64 a, .int .u64 (draw : Int), .slice p n c] 38)) (.cells #[.slice none 0 0, .int .i64 0, .int .i64 0, .int .i64 0] 44)
    rw [World.size_alloc] at ho2
    generalize (w.alloc (.cells #[.int .i64 k, .int .i64 h, .int .i64 a, .int .u64 (draw : Int), .slice p n c] 38)).alloc (.cells #[.slice none 0 0, .int .i64 0, .int .i64 0, .int .i64 0] 44) = w2 at *
    have e3 := cell_of_block he2 3 (v := .int .u64 (draw : Int)) rfl
    have j11 := hm2.cellAt id k11
    have y11 := frozen_of_block (hm2.heap hblk.out id) 11
    have hlb2 := lt_of_cell j11
    have hd2 := hide (hd.out.quiet hm2)
    have hblk2 := hide (hm2.heap hblk.out id)
    replace hm2 := hide hm2
    replace ho2 := hide ho2
    replace he2 := hide he2
    by_cases h0 : draw = 0
    · have hb0 : ((draw : Int) != 0) = false := by simp [h0]
      have hb1 : ((draw : Int) == 0) = true := by simp [h0]
      have he : d = d1 := by rw [← hd1.out]; unfold drawOf; rw [if_pos h0]
      replace he := hide he
      replace h0 := hide h0
      go_wp2_with fail
      go_meet
      rw [← he.out]
      exact ⟨by rw [← hev.out]; exact he2.out, ho2.out, hd2.out, .quiet hm2.out, .nil _ _⟩
    · have hb0 : ((draw : Int) != 0) = true := by simp; omega
      have hb1 : ((draw : Int) == 0) = false := by simp; omega
      have he : ({ d with draw := draw } : DaemonS) = d1 := by rw [← hd1.out]; unfold drawOf; rw [if_neg h0]
      replace he := hide he
      replace h0 := hide h0
      go_wp2_with fail
      go_meet
      have hms : Mod (· = P.b) w2 (w2.setCell ⟨P.b, 11, none⟩ (.int .u64 (draw : Int))) := (Mod.refl _ _).set1 _ _
      have hne : ∀ j, w.heap.size ≤ j → ¬ j = P.b := fun j hj e => by omega
      rw [← he.out]
      refine ⟨by rw [← hev.out]; exact hms.heap he2.out (hne _ (Nat.le_refl _)), hms.heap ho2.out (hne _ (by omega)), hd2.out.self hms draw d.h d.theta d.chosen d.votes P.vv ?_ (ownsRow_mod2 hd2.out.vrow hms (fun g hg e => ?_)), (DTo.quiet hm2.out).trans (.of hms (fun k hk => hk ▸ .b)), .nil _ _⟩
      · have := heap_setCell_eq hblk2.out (o := 11) (.int .u64 (draw : Int))
        simpa using this
      · obtain ⟨cu, hcu⟩ := own_block hd2.out.vrow hg
        exact ne_type hcu hblk2.out (by decide) e
  case rest =>
    have hps1 : d1.ps.length = d1.c.srv.length := hok1.out.pn
    obtain ⟨_, _, ⟨q1, q2⟩, _⟩ := cfg_nums hok1.out.c
    have hsl := srv_le hok1.out.c
    have hpbl : P.pbs.length = d1.ps.length := hcut.d.pn
    obtain ⟨g, pc, hpv, -⟩ := hcut.d.peerCell (i := 0) (bb := P.pbs[0]'(by omega)) (List.getElem?_eq_getElem (by omega))
    have hrow : ∀ wr d', DO wr P d' → ∀ i bb, P.pbs[i]? = some bb → wr.cell? ⟨g, i, none⟩ = some (at0 bb.1) := by
      intro wr d' hd' i bb hbb
      obtain ⟨g', c', h1, h2⟩ := hd'.peerCell hbb
      rw [hpv] at h1
      obtain ⟨h3, _, _⟩ := Value.slice.inj h1
      cases h3
      exact h2
    have hat : ∀ i, i < d1.ps.length → ∃ p bb, d1.ps[i]? = some p ∧ P.pbs[i]? = some bb ∧ p.Fit ∧ bb ∈ P.pbs := by
      intro i hi
      exact ⟨d1.ps[i], P.pbs[i]'(by omega), List.getElem?_eq_getElem hi, List.getElem?_eq_getElem (by omega), hok1.out.p _ (List.getElem_mem hi), List.getElem_mem _⟩
    have hpl : ∀ bb ∈ P.pbs, ∀ k, k = bb.1 ∨ k = bb.2 → fpD P k ∧ k < w.heap.size := fun bb hb k hk => ⟨.peer hb hk, hlw.out k (.peer hb hk)⟩
    obtain ⟨N, hN⟩ : ∃ N, d1.ps.length = N := ⟨_, rfl⟩
    have hN0 : 1 ≤ N := by omega
    have hN16 : N ≤ 16 := by omega
    rw [hN] at hpv
    replace hrow := hide hrow
    replace hat := hide hat
    replace hpl := hide hpl
    have hev3 := hcut.ev
    rw [← hev.out] at hev3
    have e1 := cell_of_block hev3 1 (v := .int .i64 h) rfl
    have k7 := cell_of_block hcut.d.blk 7 (v := P.pv) rfl
    rw [hpv] at k7
    replace hcut := hide hcut
    replace hev3 := hide hev3
    replace hN := hide hN
    clear k11 z11 q1 q2 hps1 hsl hpbl
    go_wp2_with fail
    go_loopw [26] (fun s26 wr => ∃ k : Nat, s26 = .int .i64 k ∧ k ≤ N ∧ TickAt P w ev (.slice none 0 0) [] { d1 with ps := mapTo (·.late h) d1.ps k } wr) (fun s26 wr => N - (match s26 with | .int _ i => i.toNat | _ => 0))
    case atStart => exact ⟨0, rfl, Nat.zero_le _, by rw [mapTo_zero]; exact hcut.out⟩
    case round =>
      obtain ⟨k, rfl, hk, htk⟩ := hrel
      have hevr := htk.ev
      rw [← hev.out] at hevr
      have e1r := cell_of_block hevr 1 (v := .int .i64 h) rfl
      replace hevr := hide hevr
      by_cases hkn : k < N
      · obtain ⟨pe, bb, hpe, hbb, hfit, hmem⟩ := hat.out k (by rw [hN.out]; exact hkn)
        have hcell := hrow.out wr _ htk.d k bb hbb
        have hla := hide (htk.d.late hbb (mapTo_get hpe) hfit h)
        have hki : (k : Int) < N := by omega
        replace htk := hide htk
        replace hpe := hide hpe
        replace hbb := hide hbb
        replace hmem := hide hmem
        replace hfit := hide hfit
        clear hk hkn
        go_wp2_with fail
        refine hla.out.mono ?_
        rintro e w9 ⟨⟨x, rfl⟩, hd9, hm9⟩
        rw [mapTo_set hpe.out] at hd9
        have ht9 := hide (htk.out.turn hm9 (hpl.out bb hmem.out) hd9)
        clear hm9 hd9 hla
        go_wp2_with fail
        go_roundw
        case rel => exact ⟨k + 1, by go_num, by omega, ht9.out⟩
        case measure => simp; omega
      · have hke : k = N := by omega
        subst hke
        have hki : ¬ ((k : Int) < k) := by omega
        rw [← hN.out, mapTo_all] at htk
        obtain ⟨d3, hd3⟩ : ∃ d3, ({ d1 with ps := d1.ps.map (·.late h) } : DaemonS) = d3 := ⟨_, rfl⟩
        have hd3' : ({ d1 with ps := List.map (fun x => x.late h) d1.ps } : DaemonS) = d3 := hd3
        rw [hd3'] at htk
        have h3k : d3.k = d.k ∧ d3.draw = drawOf d draw ∧ d3.c = d.c ∧ d3.ps = d.ps.map (·.late h) := by rw [← hd3, ← hd1.out]; exact ⟨rfl, rfl, rfl, rfl⟩
        have h3f : ∀ i, i < k → ∃ p bb s, d3.ps[i]? = some p ∧ P.pbs[i]? = some bb ∧ p.Fit ∧ bb ∈ P.pbs ∧ d.c.srv[i]? = some s := by
          intro i hi
          obtain ⟨p, bb, h1, h2, h3, h4⟩ := hat.out i (by rw [hN.out]; exact hi)
          have hs : i < d.c.srv.length := by rw [← hok.out.pn]; have e : d.ps.length = k := (by have h := hN.out; rw [← hd1.out] at h; exact h); omega
          exact ⟨p.late h, bb, d.c.srv[i], by rw [← hd3]; simp [h1], h2, PeerS.Fit.late h3 h, h4, List.getElem?_eq_getElem hs⟩
        have h3l : d3.ps.length = k := by rw [← hd3, ← hN.out]; simp
        clear hd3'
        have hrd := fun w2 (hm : Mod NoB wr w2) => kread_any P.bk d.k hok.out.k h hh w2 (h3k.1 ▸ (htk.d.quiet hm).clk)
        rw [hat0.out] at hrd
        have y6 := cell_of_block htk.d.blk 6 (v := at0 P.bk) rfl
        have hck : I64 (d.k.at h).c := (hok.out.k.at hh0 hh1).fits.2.1
        have hdr0 := drawOf_lt hok.out hdr
        obtain ⟨ck, hckv⟩ : ∃ ck, (d.k.at h).c = ck := ⟨_, rfl⟩
        obtain ⟨dr, hdrv⟩ : ∃ dr, drawOf d draw = dr := ⟨_, rfl⟩
        rw [hckv] at hrd hck
        rw [hdrv] at hdr0 h3k
        simp only [hckv] at hrd
        have ll := lt_of_block hevr.out
        have l6 := lt_of_cell y6
        have hrd2 := fun x : Since wr => Since.call x (fun w' hm => hrd w' hm)
        have z6 := fun x : Since wr => Since.cell y6 x
        have ze1 := fun x : Since wr => Since.cell e1r x
        replace hrd2 := hide hrd2
        replace hdrv := hide hdrv
        replace hckv := hide hckv
        replace h3k := hide h3k
        replace h3f := hide h3f
        replace h3l := hide h3l
        replace hd3 := hide hd3
        replace htk := hide htk
        clear hat hrd y6 e1r hk hkn
        go_wp2_with fail
        refine wp_region_mod (by kernel_rfl) (by kernel_rfl) ?_
        repeat (go_big_quiet_step ((go_at_call 46; exact hrd2.out _)))
        refine wpQuiet_nil ?_
        rintro w4 ⟨⟨_, hm4⟩, rfl⟩
        have ht4 := htk.out.quiet hm4
        have k7 := cell_of_block ht4.d.blk 7 (v := P.pv) rfl
        rw [hpv] at k7
        replace ht4 := hide ht4
        clear hm4 htk hevr z6 ze1 hrd2 ll l6 e1
        obtain ⟨af, haf⟩ : ∃ af : PeerS → PeerS, (fun p => (p.ask h ck dr).getD p) = af := ⟨_, rfl⟩
        replace haf := hide haf
        go_wp2_with fail
        go_loopw [50] (fun s50 wr => ∃ (j : Nat) (v : Value), s50 = .int .i64 j ∧ j ≤ k ∧ TickAt P w ev v (sendsTo h ck dr d3.ps d.c.srv j) { d3 with ps := mapTo af d3.ps j } wr) (fun s50 wr => k - (match s50 with | .int _ i => i.toNat | _ => 0))
        case atStart => exact ⟨0, _, rfl, Nat.zero_le _, by rw [mapTo_zero, sendsTo_zero]; exact ht4.out⟩
        case round =>
          obtain ⟨j, v, rfl, hj, htj⟩ := hrel
          have hevr := htj.ev
          rw [← hev.out] at hevr
          have e1r := cell_of_block hevr 1 (v := .int .i64 h) rfl
          replace hevr := hide hevr
          by_cases hjk : j < k
          · obtain ⟨pe, bb, sv, hpe, hbb, hfit, hmem, hsv⟩ := h3f.out j hjk
            have hcell := hrow.out wr _ htj.d j bb hbb
            have hk11 := cell_of_block htj.d.blk 11 (v := .int .u64 (d3.draw : Int)) rfl
            rw [h3k.out.2.1] at hk11
            have hki : (j : Int) < k := by omega
            have n11 : ¬ (P.b = bb.1 ∨ P.b = bb.2) := fun e => by
              obtain ⟨t, hbo⟩ := (htj.d.peer j bb pe hbb (mapTo_get hpe)).bo
              rcases e with e | e
              · exact ne_type htj.d.blk (htj.d.peer j bb pe hbb (mapTo_get hpe)).pb (by decide) e
              · exact ne_type htj.d.blk hbo (by decide) e
            have nev : ¬ (w.heap.size = bb.1 ∨ w.heap.size = bb.2) := fun e => by have := (hpl.out bb hmem _ e).2; omega
            replace n11 := hide n11
            replace nev := hide nev
            cases ha : pe.ask h ck dr with
            | none =>
              have hask := hide (fun wx (hm : Mod NoB wr wx) => (htj.d.quiet hm).askNo hbb (mapTo_get hpe) h ck dr (by omega) hh1 ha)
              have haf2 : af pe = pe := by rw [← haf.out]; show (pe.ask h ck dr).getD pe = pe; rw [ha]; rfl
              have hms := hide (mapTo_same (f := af) hpe haf2)
              have hss := hide (sendsTo_none hpe hsv ha)
              replace htj := hide htj
              replace hpe := hide hpe
              replace hbb := hide hbb
              replace hsv := hide hsv
              replace hmem := hide hmem
              replace hfit := hide hfit
              clear haf2 hj hjk ha
              go_wp2_with fail
              go_region_held3 (fun w' => w'.cell? ⟨w.heap.size, 1, none⟩ = some (.int .i64 h) ∧ w'.cell? ⟨P.b, 11, none⟩ = some (.int .u64 (dr : Int)))
                (first | with_reducible exact ⟨e1r, hk11⟩ | go_keep)
                ((go_at_call 78; (with_reducible refine (hask.out _ (Mod.refl NoB wr).drew).mono ?_); rintro e wg ⟨⟨er, her, rfl⟩, rfl⟩))
              have hbe : (er == 0) = false := by simpa using her
              replace her := hide her
              go_wp2_with fail
              go_roundw
              case rel => exact ⟨j + 1, v, by go_num, by omega, by rw [hss.out, hms.out]; exact htj.out.quiet (Mod.refl _ _).drew⟩
              case measure => simp; omega
            | some q =>
              have hask := hide (fun wx (hm : Mod NoB wr wx) => (htj.d.quiet hm).askYes hbb (mapTo_get (f := af) hpe) h ck dr (by omega) hh1 hdr0 ha)
              have haf2 : af pe = q := by rw [← haf.out]; show (pe.ask h ck dr).getD pe = q; rw [ha]; rfl
              have hms0 := mapTo_set (f := af) hpe
              rw [haf2] at hms0
              have hms := hide hms0
              have hss := hide (sendsTo_some hpe hsv ha)
              have hLl := sendsTo_len h ck dr d3.ps d.c.srv j
              generalize sendsTo h ck dr d3.ps d.c.srv j = L at htj hss hLl
              obtain ⟨vp, vc, hvv⟩ := htj.s.slice
              subst hvv
              replace htj := hide htj
              replace hpe := hide hpe
              replace hbb := hide hbb
              replace hsv := hide hsv
              replace hmem := hide hmem
              replace hfit := hide hfit
              clear haf2 hms0 hj hjk ha
              go_wp2_with fail
              go_region_held3 (fun w' => w'.cell? ⟨w.heap.size, 1, none⟩ = some (.int .i64 h) ∧ w'.cell? ⟨P.b, 11, none⟩ = some (.int .u64 (dr : Int)))
                (first | with_reducible exact ⟨e1r, hk11⟩ | with_reducible exact ⟨hm9.out.cellAt nev.out e1r, hm9.out.cellAt n11.out hk11⟩ | go_keep)
                ((go_at_call 78; (with_reducible refine (hask.out _ (Mod.refl NoB wr).drew).mono ?_); rintro e w9 ⟨u, rfl, hu, hd9, hm9⟩; replace hu := hide hu; replace hd9 := hide hd9; replace hm9 := hide ((Mod.refl _ wr).drew.trans hm9)))
              have hd9' := hd9.out
              simp only [hms.out] at hd9'
              have ht9 := htj.out.turn hm9.out (hpl.out bb hmem.out) hd9'
              have hub := own_lower hu.out (base' := w.heap.size + 2) (by have := (hlw.out _ (fpD.b (P := P))); have h2 := htj.out.t.m.size; have h3 := lt_of_block htj.out.out; show _ ≤ wr.drew.heap.size; exact h3)
              obtain ⟨up, uc, huv⟩ := own_value hub
              subst huv
              obtain ⟨gs, so, hsp, hsl, hsc⟩ := ht9.d.srv j (by
                have h1 := (List.getElem?_eq_some_iff.1 hsv.out).1
                show j < d3.c.srv.length
                rw [h3k.out.2.2.1]
                exact h1)
              have hsv2 : d3.c.srv.getD j 0 = sv := by rw [h3k.out.2.2.1, List.getD_eq_getElem?_getD, hsv.out]; rfl
              have hsc2 : w9.cell? ⟨gs, so + j, none⟩ = some (.int .i64 sv) := by rw [← hsv2]; exact hsc
              have s0 := cell_of_block ht9.d.blk 0 (v := .slice P.sp d3.c.srv.length P.sc) rfl
              rw [hsp] at s0
              have hjl : (j : Int) < d3.c.srv.length := by
                have h1 := (List.getElem?_eq_some_iff.1 hsv.out).1
                rw [h3k.out.2.2.1]
                omega
              have o0 := cell_of_block ht9.out 0 (v := .slice vp L.length vc) rfl
              have lo9 := lt_of_block ht9.out
              have lb9 := lt_of_cell s0
              obtain ⟨vs, hvl, hvr, hvd⟩ := ht9.s
              have nown : ∀ x, x < w.heap.size + 2 → ¬ ((Value.slice vp L.length vc).ownBlock = some x) := fun x hx e => by have := own_from hvr e; omega
              have hgs : gs < w.heap.size := hlw.out gs (fpD.sp hsp)
              have hPb : P.b < w.heap.size := hlw.out _ fpD.b
              obtain ⟨i0, hi, hz0, hz1, hz2⟩ := info_parts infoSend
              replace hi := hide hi
              replace hz0 := hide hz0
              replace hz1 := hide hz1
              replace hz2 := hide hz2
              replace hvr := hide hvr
              replace hvd := hide hvd
              replace hvl := hide hvl
              replace hub := hide hub
              replace ht9 := hide ht9
              replace nown := hide nown
              replace hsp := hide hsp
              replace hsv2 := hide hsv2
              have hqb : (queryP dr).bytes.length = 48 := rfl
              clear hsc hu hd9 hd9' hm9 e1r hk11 hask hcell
              go_wp2_with fail
              go_region_law ((refine step_append_at rfl (.tmp 70) (.tmp 81) 42 rfl (w.heap.size + 2) 48 i0 (.agg #[.int .i64 0, .slice none 0 0]) 2 32 Tryz.underlying42 hi.out hz0.out hz1.out hz2.out rfl (by decide) (.slice vp L.length vc) L.length (sendCells L vs) rfl (by exact (ownsRow_mod2 (S := NoB) hvr.out ((Mod.refl _ _).alloc _).drew (fun _ _ f => f.elim))) ⟨_, 0, none⟩ 1 1 [.int .i64 sv, .slice up 48 uc] rfl rfl (by exact cells2_new _ _ _ _) (by intro y hy; simp at hy; rcases hy with rfl | rfl <;> rfl) (by unfold maxLen; omega) (by omega) (by simp; omega) ?_; intro v' w7 hown' hgrow hat; obtain ⟨p', c', rfl⟩ := own_value hown'; have hm7 : Mod (fun k => (Value.slice vp L.length vc).ownBlock = some k) w9 w7 := Mod.grownS (((Mod.refl _ _).alloc _).drew) hgrow (fun _ h => h); have ho7 := hm7.heap ht9.out.out (nown.out _ (by omega)); have d1 := cell_of_block ho7 0 (v := .slice vp L.length vc) rfl; have d2 := frozen_of_block ho7 0; replace hm7 := hide hm7; replace hown' := hide hown'; replace ho7 := hide ho7; clear hgrow hat))
              all_goals
                have hm8 := hide (sends_snoc (x := (sv, (queryP dr).bytes)) hvl.out hvr.out hvd.out hub.out hm7.out hown'.out)
                have htn := hide (ht9.out.more hm7.out hm8.out (fun g hg => own_from hvr.out hg) hlw.out)
                clear hm8 hown' hm7 ho7
                go_wp2_with fail
                go_roundw
                case rel => exact ⟨j + 1, _, by go_num, by omega, by rw [hss.out]; exact htn.out⟩
                case measure => simp; omega
          · have hje : j = k := by omega
            subst hje
            have hki : ¬ ((j : Int) < j) := by omega
            obtain ⟨vp, vc, hvv⟩ := htj.s.slice
            subst hvv
            have hfin : (tickS d h draw) = ({ d3 with ps := mapTo af d3.ps j }, sendsTo h ck dr d3.ps d.c.srv j) := by
              have e1 : mapTo af d3.ps j = d3.ps.map af := by have := mapTo_all af d3.ps; rw [h3l.out] at this; exact this
              have e2 : sendsTo h ck dr d3.ps d.c.srv j = askSends h ck dr d3.ps d.c.srv := by
                have := sendsTo_all h ck dr d3.ps d.c.srv (by rw [h3l.out, ← hok.out.pn]; have h := hN.out; rw [← hd1.out] at h; exact h.symm)
                rw [h3l.out] at this
                exact this
              rw [e1, e2, ← haf.out, ← hd3.out, ← hd1.out]
              unfold tickS
              rw [hckv.out, hdrv.out]
              rfl
            generalize sendsTo h ck dr d3.ps d.c.srv j = L at htj hfin
            generalize ({ d3 with ps := mapTo af d3.ps j } : DaemonS) = d9 at htj hfin
            obtain ⟨x0, x1, x2, x3, f0, f1, f2, f3⟩ := four_of htj.out
            have hms := Mod.set4x (S := (· = w.heap.size + 1)) (Mod.refl _ wr) (Or.inl rfl) (.slice vp L.length vc) (.int .i64 0) (.int .i64 0) (.int .i64 0)
            have hof := set4_heap htj.out (.slice vp L.length vc) (.int .i64 0) (.int .i64 0) (.int .i64 0)
            unfold set4 at hof
            have hdl := htj.d.apart hms (fun x hx hf => by have := hlw.out x hf; omega)
            have htl := htj.t.own hms (fun x hx => by omega)
            have hsl := htj.s.mod hms (fun x hx e => by omega)
            obtain ⟨wl, hwl⟩ : ∃ wl, ((((wr.setCell ⟨w.heap.size + 1, 0, none⟩ (.slice vp L.length vc)).setCell ⟨w.heap.size + 1, 1, none⟩ (.int .i64 0)).setCell ⟨w.heap.size + 1, 2, none⟩ (.int .i64 0)).setCell ⟨w.heap.size + 1, 3, none⟩ (.int .i64 0)) = wl := ⟨_, rfl⟩
            rw [hwl] at hof hdl htl hsl
            replace hof := hide hof
            replace hdl := hide hdl
            replace htl := hide htl
            replace hsl := hide hsl
            replace htj := hide htj
            replace hfin := hide hfin
            clear hms e1r
            go_wp2_with fail
            obtain ⟨y0, y1, y2, y3, -⟩ := four_of hof.out
            exact bodyPost_ret (v := .agg #[.slice vp L.length vc, .int .i64 0, .int .i64 0, .int .i64 0]) (by simp [results, Tryz.results44, go_sem, y0, y1, y2, y3]) rfl ⟨_, rfl, by rw [hfin.out]; exact hdl.out, htl.out, by rw [hfin.out]; exact hsl.out⟩
end Go.Proofs.YtpjfiplejhbdfaaGreatDoor

