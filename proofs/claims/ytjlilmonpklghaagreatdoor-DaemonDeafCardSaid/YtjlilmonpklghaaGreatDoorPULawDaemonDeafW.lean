/- Datagrams that aren't taken, nor a kiss, wherever they come, change nothing but counts. No condition. -/
import Derived.Test.YtjlilmonpklghaaGreatDoorPUbi
import Derived.Test.YtjlilmonpklghaaGreatDoorPUbj
import Derived.Test.YtjlilmonpklghaaGreatDoorPUam
import Derived.Lay
namespace Go.Proofs.YtjlilmonpklghaaGreatDoor.daemonDeaf
open Go.ChangeShapes Go.WideShapes Go.ChangeAt Go.RowKit Go.Proofs.YtjlilmonpklghaaGreatDoor
set_option linter.unusedVariables false
set_option linter.unusedSimpArgs false

theorem zeroU (w : World) : (zeroValue 30).run Tryz.prog w = .ok (.int .u64 0) w := by kernel_rfl
theorem err_like {d m : DaemonS} {z : EvS} (h1 : d.h ≤ z.h) (h2 : m.h ≤ z.h) : errS m z = errS d z := by
  unfold errS
  have a : ¬ z.h < d.h := by omega
  have b : ¬ z.h < m.h := by omega
  simp only [a, b, if_false]
theorem do_wake (d : DaemonS) (e : EvS) (h : errS d e = 0) : (doS d e).2.wake = wakeS (doS d e).1.ps := by
  unfold doS
  rw [if_neg (by simp [h])]
  split <;> rfl
/-- What is not the answer that is asked for is told, and changes nothing but counts. -/
theorem deaf_more {d m : DaemonS} {z : EvS} {asked : Int → Nat} {l : List Nat} (hL : Like (doS d z).1 m) (hm : m.Ok) (h0 : errS d z = 0) (hh : m.h ≤ z.h) (ho : (doS d z).1.Out asked) (hl : lookR l (asked z.addr) ≠ 0 ∧ lookR l (asked z.addr) ≠ 8) :
    errS m ⟨1, z.h, z.addr, 0, l⟩ = 0 ∧ Like (doS d z).1 (doS m ⟨1, z.h, z.addr, 0, l⟩).1 ∧ (doS m ⟨1, z.h, z.addr, 0, l⟩).2.sends = [] ∧ (doS m ⟨1, z.h, z.addr, 0, l⟩).2.clock = (doS d z).2.clock ∧ (doS m ⟨1, z.h, z.addr, 0, l⟩).2.wake = (doS d z).2.wake ∧
      ((doS m ⟨1, z.h, z.addr, 0, l⟩).2.reason ≠ 0 ∧ (doS m ⟨1, z.h, z.addr, 0, l⟩).2.reason ≠ 8) ∧ (doS m ⟨1, z.h, z.addr, 0, l⟩).1.h = z.h := by
  obtain ⟨_, b2, b3, b4⟩ := err_none h0
  have he : errS m ⟨1, z.h, z.addr, 0, l⟩ = 0 := by
    unfold errS
    rw [if_neg (by simp), if_neg (by show ¬ (z.h < 0 ∨ maxHard < z.h); omega), if_neg (by show ¬ z.h < m.h; omega)]
  have hr : (doS m ⟨1, z.h, z.addr, 0, l⟩).2.reason = (hearS { m with h := z.h } z.h z.addr l).2 ∧ (doS m ⟨1, z.h, z.addr, 0, l⟩).2.sends = [] := by
    unfold doS
    rw [if_neg (by simp [he])]
    exact ⟨rfl, rfl⟩
  have hmo : ({ m with h := z.h } : DaemonS).Out asked := (hL.out ho)
  have hmk : ({ m with h := z.h } : DaemonS).Ok := ⟨hm.c, hm.k, hm.p, hm.dr, hm.s, hm.pn, hm.sn, hm.n, hm.nn, by show m.k.h ≤ z.h; have := hm.h0; omega, b3⟩
  have hd := out_deaf hmk hmo hl (h := z.h)
  rw [← hr.1] at hd
  have hl2 : Like m (doS m ⟨1, z.h, z.addr, 0, l⟩).1 := do_deaf he (by simp) hd
  have hl3 := hL.trans hl2
  obtain ⟨_, hk, hps, _⟩ := hl3.parts
  refine ⟨he, hl3, hr.2, ?_, ?_, hd, doS_h he⟩
  · rw [do_out _ _ he, do_out _ _ h0, hk]
  · rw [do_wake _ _ he, do_wake _ _ h0, hps]
/-- Such a Do. -/
theorem deaf_do {P : DPl} {m : DaemonS} {z3 : EvS} {O : OutS} {b : Nat} {V : Value} {w : World}
    (h : errS m z3 = 0 ∧ (doS m z3).2.sends = [] ∧ (doS m z3).2.clock = O.clock ∧ (doS m z3).2.wake = O.wake)
    (hdo : Calls Tryz.prog 19 #[at0 b, V] w (DoPost P (doS m z3).1 (doS m z3).2 (errS m z3) w)) :
    Calls Tryz.prog 19 #[at0 b, V] w (fun e w' => ∃ p c P1, e = .returned (.tuple #[.agg #[.slice p 0 c, .int .i64 O.clock, .int .i64 O.wake, .int .i64 (doS m z3).2.reason], .int .i64 0]) ∧ DO w' P1 (doS m z3).1 ∧ DTo P P1 w w') := by
  obtain ⟨h1, h2, h3, h4⟩ := h
  refine hdo.mono ?_
  rintro e w' ⟨v, P1, he, g1, g2, g3⟩
  obtain ⟨p, c, hv⟩ := g3.slice
  subst hv
  exact ⟨p, c, P1, by rw [he, h1, h2, h3, h4]; rfl, g1, g2⟩
theorem look_dat {w : World} {dp : Option Addr} {dc : Nat} {l : List Nat} (h : DataAt w (.slice dp l.length dc) l) (c : Nat) :
    Calls Tryz.prog 23 #[.slice dp l.length dc, .int .u64 c] w fun e w' => e = .returned (.tuple #[(lookP l c).val, .int .i64 (lookR l c)]) ∧ Mod NoB w w' := by
  by_cases h48 : 48 ≤ l.length
  · obtain ⟨p, c', h1, h2, h3⟩ := h
    obtain ⟨bd, off, e, h4, h5, h6⟩ := h3 (by omega)
    obtain ⟨rfl, _, rfl⟩ := Value.slice.inj h1
    subst e
    exact look_any bd off dc l c h48 h4 h2 h5 w h6
  · have e1 : lookP l c = pkt0 := by unfold lookP; rw [if_pos (by omega)]
    have e2 : lookR l c = 1 := by unfold lookR; rw [if_pos (by omega)]
    rw [e1, e2]
    exact look_short dc l (by omega) dp c w
theorem askedBy_nil (dr : Nat) (asked : Int → Nat) : askedBy dr [] asked = asked := by funext a; simp [askedBy]
theorem askedBy_step (dr : Nat) (L : List (Int × List Nat)) (asked : Int → Nat) {j : Nat} {x : Int × List Nat} (hx : L[j]? = some x) : askedBy dr (L.take (j + 1)) asked = fun a => if a = x.1 then dr else askedBy dr (L.take j) asked a := by
  funext a
  unfold askedBy
  rw [List.take_add_one, hx]
  simp only [Option.toList, List.map_append, List.map_cons, List.map_nil, List.mem_append, List.mem_singleton]
  by_cases h : a = x.1
  · simp [h]
  · simp [h]
/-- The map of cookies. -/
structure AskM (w2 : World) (Q Q' : DPl) (bl : Nat) (asked : Int → Nat) (w : World) : Prop where
  l : ∃ f, MapF w bl f ∧ ∀ a, (f a).getD (.int .u64 0) = .int .u64 (asked a : Nat)
  nl : ¬ fpD Q bl
  nr : ¬ fpD Q' bl
  lo : w2.heap.size ≤ bl
  lt : bl < w.heap.size
theorem AskM.quiet {w2 : World} {Q Q' : DPl} {bl : Nat} {asked : Int → Nat} {w w' : World} (h : AskM w2 Q Q' bl asked w) (hm : Mod NoB w w') : AskM w2 Q Q' bl asked w' :=
  let ⟨⟨f, h1, h2⟩, h3, h4, h5, h6⟩ := h
  ⟨⟨f, h1.quiet hm, h2⟩, h3, h4, h5, Nat.lt_of_lt_of_le h6 hm.size⟩
theorem AskM.toL {w2 : World} {Q Q1 Q' : DPl} {bl : Nat} {asked : Int → Nat} {w w' : World} (h : AskM w2 Q Q' bl asked w) (ht : DTo Q Q1 w w') : AskM w2 Q1 Q' bl asked w' :=
  let ⟨⟨f, h1, h2⟩, h3, h4, h5, h6⟩ := h
  ⟨⟨f, h1.mod ht.m h3, h2⟩, fun x => (ht.f _ x).elim h3 (fun y => Nat.lt_irrefl _ (Nat.lt_of_lt_of_le h6 y)), h4, h5, Nat.lt_of_lt_of_le h6 ht.m.size⟩
theorem AskM.toR {w2 : World} {Q Q1 Q' : DPl} {bl : Nat} {asked : Int → Nat} {w w' : World} (h : AskM w2 Q' Q bl asked w) (ht : DTo Q Q1 w w') : AskM w2 Q' Q1 bl asked w' :=
  let ⟨⟨f, h1, h2⟩, h3, h4, h5, h6⟩ := h
  ⟨⟨f, h1.mod ht.m h4, h2⟩, h3, fun x => (ht.f _ x).elim h4 (fun y => Nat.lt_irrefl _ (Nat.lt_of_lt_of_le h6 y)), h5, Nat.lt_of_lt_of_le h6 ht.m.size⟩
theorem AskM.put {w2 : World} {Q Q' : DPl} {bl : Nat} {asked : Int → Nat} {w : World} (h : AskM w2 Q Q' bl asked w) (k : Int) (dr : Nat) :
    ∃ o, (Instr.mapUpdate 31 (.map (some bl)) (.int .i64 k) (.int .u64 dr)).run Tryz.prog w = .ok () (setO w bl o) ∧ AskM w2 Q Q' bl (fun a => if a = k then dr else asked a) (setO w bl o) := by
  obtain ⟨⟨f, h1, h2⟩, h3, h4, h5, h6⟩ := h
  obtain ⟨o, hr, hm⟩ := h1.put (P := Tryz.prog) Tryz.underlying31 Tryz.underlying3 k (.int .u64 (dr : Int))
  refine ⟨o, hr, ⟨_, hm, fun a => ?_⟩, h3, h4, h5, Nat.lt_of_lt_of_le h6 (setO_mod (w := w) (r := bl) o).size⟩
  unfold putM
  by_cases ha : a = k
  · simp [ha]
  · rw [if_neg ha, if_neg ha]
    exact h2 a
theorem AskM.look {w2 : World} {Q Q' : DPl} {bl : Nat} {asked : Int → Nat} {w : World} (h : AskM w2 Q Q' bl asked w) (k : Int) :
    (Instr.lookup 31 (.map (some bl)) (.int .i64 k) false).run Tryz.prog w = .ok (.int .u64 (asked k : Nat)) w := by
  obtain ⟨⟨f, h1, h2⟩, _⟩ := h
  have := h1.look1 (P := Tryz.prog) Tryz.underlying31 Tryz.underlying3 zeroU k
  rwa [h2 k] at this
theorem AskM.ne_cells {w2 : World} {Q Q' : DPl} {bl : Nat} {asked : Int → Nat} {w : World} (h : AskM w2 Q Q' bl asked w) {b : Nat} {c : Array Value} {t : TypeId} {f : Nat × Nat} (hb : w.heap[b]? = some (.cells c t f)) : b ≠ bl := fun e => by
  obtain ⟨⟨_, ⟨_, _, h1, _⟩, _⟩, _⟩ := h
  rw [e, h1] at hb
  cases hb
theorem AskM.ne_data {w2 : World} {Q Q' : DPl} {bl : Nat} {asked : Int → Nat} {w : World} (h : AskM w2 Q Q' bl asked w) {dp : Option Addr} {n c : Nat} {l : List Nat} (hd : DataAt w (.slice dp n c) l) :
    ∀ bd off, dp = some ⟨bd, off, none⟩ → 0 < l.length → bd ≠ bl := fun bd off e h0 hbd => by
  obtain ⟨p, c', h1, _, h3⟩ := hd
  obtain ⟨b2, o2, e2, _, _, hb⟩ := h3 h0
  obtain ⟨rfl, _⟩ := Value.slice.inj h1
  rw [e] at e2
  cases e2
  have hc := hb.cell 0 h0
  obtain ⟨⟨_, ⟨_, _, h1, _⟩, _⟩, _⟩ := h
  subst hbd
  simp [World.cell?, h1] at hc
/-- Rows of bytes that are heard besides. -/
structure Cands (w2 : World) (Q Q' : DPl) (bs : Nat) (w : World) : Prop where
  c : ∀ i : Nat, i < 3 → ∃ (dp : Option Addr) (l : List Nat) (c : Nat), w.cell? ⟨bs, i, none⟩ = some (.slice dp l.length c) ∧ DataAt w (.slice dp l.length c) l ∧ ∀ bd off, dp = some ⟨bd, off, none⟩ → 0 < l.length → ¬ fpD Q bd ∧ ¬ fpD Q' bd
  nl : ¬ fpD Q bs
  nr : ¬ fpD Q' bs
  lt : bs < w.heap.size
theorem Cands.quiet {w2 : World} {Q Q' : DPl} {bs : Nat} {w w' : World} (h : Cands w2 Q Q' bs w) (hm : Mod NoB w w') : Cands w2 Q Q' bs w' :=
  ⟨fun i hi => let ⟨dp, l, c, h1, h2, h3⟩ := h.c i hi; ⟨dp, l, c, hm.cellAt id h1, h2.mod hm, h3⟩, h.nl, h.nr, Nat.lt_of_lt_of_le h.lt hm.size⟩
theorem Cands.toR {w2 : World} {Q Q' Q1 : DPl} {bs : Nat} {w w' : World} (h : Cands w2 Q Q' bs w) (ht : DTo Q' Q1 w w') : Cands w2 Q Q1 bs w' :=
  ⟨fun i hi => let ⟨dp, l, c, h1, h2, h3⟩ := h.c i hi
    let hd := ht.data h2 (fun bd off a b => (h3 bd off a b).2)
    ⟨dp, l, c, ht.m.cellAt h.nr h1, hd.1, fun bd off a b => ⟨(h3 bd off a b).1, hd.2 bd off a b⟩⟩, h.nl, fun x => (ht.f _ x).elim h.nr (fun y => Nat.lt_irrefl _ (Nat.lt_of_lt_of_le h.lt y)), Nat.lt_of_lt_of_le h.lt ht.m.size⟩
set_option maxRecDepth 100000 in
set_option maxHeartbeats 8000000 in
theorem walk (l : List UInt8) (hl : l.length ≤ 9223372036854775807) (p : Option Addr) (cap : Nat) (L : List ActS) (hLl : L.length ≤ 9223372036854775807) (bp : Option Addr) (bc : Nat) (lb : List Nat) (w : World) (hL : LaidN w) (hA : ActsAt w p L) (hB : DataAt w (.slice bp lb.length bc) lb) (hBl : ∀ bd off, bp = some ⟨bd, off, none⟩ → 0 < lb.length → bd < w.heap.size) :
    Calls Tryz.prog 3 #[.string (bs l), .slice p L.length cap, .slice bp lb.length bc] w fun e w' => e = .returned (.bool true) ∧ Mod NoB w w' := by
  have hal := hide (fun wx (hm : Mod NoB w wx) => alive_any wx (hL.mod hm))
  have hgr := hide (fun wx (hm : Mod NoB w wx) => great_any p cap L hLl wx (hA.mod hm))
  have hnw := hide (fun wx (hm : Mod NoB w wx) => new_any l hl 0 0 wx (hL.mod hm))
  obtain ⟨n, hn⟩ : ∃ n, L.length = n := ⟨_, rfl⟩
  rw [hn] at hgr hLl ⊢
  replace hL := hide hL
  replace hB := hide hB
  replace hBl := hide hBl
  replace hA := hide hA
  replace hn := hide hn
  go_enter Tryz.func3, Tryz.ntmps3
  have hm1 : Hid (Mod NoB w w) := hide (Mod.refl _ _)
  by_cases h2l : 2000 < l.length
  · clear hgr hnw
    go_wp2_with fail
    refine (hal.out _ hm1.out).mono ?_
    rintro e w8 ⟨rfl, hm8⟩
    replace hm1 := hide (hm1.out.trans hm8)
    clear hm8
    go_wp2_with fail
    go_ret
    exact ⟨rfl, hm1.out⟩
  go_wp2_with fail
  refine (hgr.out _ hm1.out).mono ?_
  rintro e w2 ⟨g, rfl, hg, hm2⟩
  replace hm1 := hide (hm1.out.trans hm2)
  clear hm2 hgr
  rcases hg with rfl | ⟨rfl, hn80⟩
  · clear hnw
    go_wp2_with fail
    refine (hal.out _ hm1.out).mono ?_
    rintro e w8 ⟨rfl, hm8⟩
    replace hm1 := hide (hm1.out.trans hm8)
    clear hm8
    go_wp2_with fail
    go_ret
    exact ⟨rfl, hm1.out⟩
  replace hn80 := hide hn80
  by_cases hb5 : 500 < lb.length
  · have hb5' : (500 : Int) < lb.length := by omega
    clear hnw
    go_wp2_with fail
    refine (hal.out _ hm1.out).mono ?_
    rintro e w8 ⟨rfl, hm8⟩
    replace hm1 := hide (hm1.out.trans hm8)
    clear hm8
    go_wp2_with fail
    go_ret
    exact ⟨rfl, hm1.out⟩
  go_wp2_with fail
  refine (hnw.out _ hm1.out).mono ?_
  rintro e w3 hp3
  have hm3 := hide (hm1.out.trans hp3.1)
  rcases hno : newOut l 0 0 with ⟨ln, er⟩ | c
  · obtain ⟨rfl, hm3'⟩ := new_none hp3 hno
    clear hp3 hm3'
    replace hno := hide hno
    go_wp2_with fail
    refine (hnw.out _ hm3.out).mono ?_
    rintro e w4 hp4
    obtain ⟨rfl, hm4⟩ := new_none hp4 hno.out
    replace hm3 := hide (hm3.out.trans hm4)
    clear hp4 hm4 hnw
    have hne := newOut_no hno.out
    have heb : (er != 0) = true := by simpa using hne
    replace hne := hide hne
    go_wp2_with fail
    refine (hal.out _ hm3.out).mono ?_
    rintro e w8 ⟨rfl, hm8⟩
    replace hm3 := hide (hm3.out.trans hm8)
    clear hm8
    go_wp2_with fail
    go_ret
    exact ⟨by simp, hm3.out⟩
  · obtain ⟨P, rfl, ho3⟩ := One.new hp3 hno
    clear hp3
    have hck := (newOut_yes hno).2.2.1
    have hne0 := (newOut_yes hno).2.2.2
    replace hck := hide hck
    replace hne0 := hide hne0
    replace hno := hide hno
    replace ho3 := hide ho3
    go_wp2_with fail
    refine (hnw.out _ hm3.out).mono ?_
    rintro e w4 hp4
    obtain ⟨P', rfl, ht4⟩ := Two.new ho3.out hp4 hno.out
    replace hm3 := hide (hm3.out.trans hp4.1)
    clear hp4 ho3 hnw
    replace ht4 := hide ht4
    have hmm := @run_makeMap Tryz.prog
    go_upto_region 8 with (fail)
    have hmA : Mod NoB w4 (w4.alloc (.map #[] 0)) := (Mod.refl _ _).alloc _
    have hA' := heap_alloc_new w4 (.map #[] 0)
    go_upto_region 9 with (fail)
    generalize w4.alloc (.map #[] 0) = w9 at *
    obtain ⟨bl, hbl⟩ : ∃ bl, w4.heap.size = bl := ⟨_, rfl⟩
    have hmp0 : AskM w2 P P' bl (fun _ => 0) w9 := by
      have h1 := ht4.out.d.lt
      have h2 := ht4.out.m.lt
      have h3 := ht4.out.old.size
      have h4 := lt_of_block hA'
      rw [hbl] at hA' h1 h2 h3 h4
      exact ⟨⟨_, MapF.new hA', fun _ => rfl⟩, fun x => Nat.lt_irrefl _ (h1 _ x), fun x => Nat.lt_irrefl _ (h2 _ x), h3, h4⟩
    rw [hbl]
    replace ht4 := hide (ht4.out.quiet hmA)
    replace hmp0 := hide hmp0
    replace hbl := hide hbl
    clear hmA hA' hmm
    go_wp2_with fail
    have hb0 := ht4.out.left.b
    have hb0' := ht4.out.right.b
    go_loopw [80, 13, 14] (fun s80 s13 s14 wr => ∃ (k dr : Nat) (Q Q' : DPl) (d m : DaemonS) (asked : Int → Nat) (la : Int), s80 = .int .i64 k ∧ s13 = .int .u64 dr ∧ s14 = .int .i64 la ∧ k ≤ n ∧ dr < 18446744073709551616 ∧ Q.b = P.b ∧ Q'.b = P'.b ∧ d.Ok ∧ d.Cnt k ∧ m.Ok ∧ m.Cnt (4 * (k : Int)) ∧ Like d m ∧ d.Out asked ∧ d.draw = dr ∧ d.h ≤ la ∧ m.h ≤ la ∧ 0 ≤ la ∧ Two w2 Q Q' d m wr ∧ AskM w2 Q Q' bl asked wr) (fun s80 _ _ wr => n - (match s80 with | .int _ i => i.toNat | _ => 0))
    case atStart => exact ⟨0, 0, P, P', newS c 0 0, newS c 0 0, fun _ => 0, 0, rfl, rfl, rfl, Nat.zero_le _, by decide, rfl, rfl, (newS_ok hck.out hne0.out).1, (newS_ok hck.out hne0.out).2, (newS_ok hck.out hne0.out).1, (newS_ok hck.out hne0.out).2, Like.refl _, newS_outs c 0 0, rfl, Int.le_refl _, Int.le_refl _, Int.le_refl _, ht4.out, hmp0.out⟩
    case round =>
      obtain ⟨k, dr, Q, Q', d, m, asked, la, rfl, rfl, rfl, hk, hdr, hq, hq', hok, hcn, hokm, hcnm, hlk, hou, hdd, hdh, hmh, hla0, ht, hmp⟩ := hrel
      replace hq := hide hq
      replace hq' := hide hq'
      replace hok := hide hok
      replace hcn := hide hcn
      replace hokm := hide hokm
      replace hcnm := hide hcnm
      replace hlk := hide hlk
      replace hou := hide hou
      replace hdd := hide hdd
      replace hdr := hide hdr
      replace hdh := hide hdh
      replace hmh := hide hmh
      replace hmp := hide hmp
      by_cases hkn : k < n
      · clear hm3
        obtain ⟨x, hx⟩ : ∃ x, L[k]? = some x := ⟨L[k]'(by rw [hn.out]; exact hkn), List.getElem?_eq_getElem (by rw [hn.out]; exact hkn)⟩
        obtain ⟨g, off, rfl, hglt, hat⟩ := hA.out k x hx
        obtain ⟨⟨dp, dc, c0, c1, c2, c3, c4, c5, hda, hdl⟩, ik, ih, ia, id'⟩ := hat
        have hmr := hm1.out.trans ht.old
        replace c0 := hmr.cellAt id c0
        replace c1 := hmr.cellAt id c1
        replace c2 := hmr.cellAt id c2
        replace c3 := hmr.cellAt id c3
        replace c4 := hmr.cellAt id c4
        replace c5 := hmr.cellAt id c5
        replace hda := hda.mod hmr
        replace hglt := Nat.lt_of_lt_of_le hglt hmr.size
        replace hdl : ∀ bd off, dp = some ⟨bd, off, none⟩ → 0 < x.e.data.length → bd < w2.heap.size := fun bd off a b => Nat.lt_of_lt_of_le (hdl bd off a b) hm1.out.size
        replace hdl := hide hdl
        clear hmr
        replace ht := hide ht
        replace hda := hide hda
        replace hx := hide hx
        have hki : (k : Int) < n := by omega
        go_upto_region 12 with (fail)
        have hw5 := heap_alloc_new wr (.cells #[.int .i64 x.e.kind, .int .i64 x.e.h, .int .i64 x.e.addr, .int .u64 (x.e.draw : Int), .slice dp x.e.data.length dc, .bool x.good] 35)
        have hq5 : Mod NoB wr (wr.alloc (.cells #[.int .i64 x.e.kind, .int .i64 x.e.h, .int .i64 x.e.addr, .int .u64 (x.e.draw : Int), .slice dp x.e.data.length dc, .bool x.good] 35)) := (Mod.refl _ _).alloc _
        generalize wr.alloc (.cells #[.int .i64 x.e.kind, .int .i64 x.e.h, .int .i64 x.e.addr, .int .u64 (x.e.draw : Int), .slice dp x.e.data.length dc, .bool x.good] 35) = w5 at *
        replace hda := hide (hda.out.mod hq5)
        replace ht := hide (ht.out.quiet hq5)
        replace hmp := hide (hmp.out.quiet hq5)
        clear hq5 c0 c1 c2 c3 c4 c5
        have c0 := cell_of_block hw5 0 (v := .int .i64 x.e.kind) rfl
        have c1 := cell_of_block hw5 1 (v := .int .i64 x.e.h) rfl
        have c2 := cell_of_block hw5 2 (v := .int .i64 x.e.addr) rfl
        have c3 := cell_of_block hw5 3 (v := .int .u64 (x.e.draw : Int)) rfl
        have c4 := cell_of_block hw5 4 (v := .slice dp x.e.data.length dc) rfl
        have c5 := cell_of_block hw5 5 (v := .bool x.good) rfl
        replace hw5 := hide hw5
        have hev := hide (event_any x dp dc dr hdr.out id' w5 hda.out)
        go_wp2_with fail
        refine hev.out.mono ?_
        rintro e w6 ⟨dp', dc', rfl, hda6, hap6, hm6⟩
        replace hmp := hide (hmp.out.quiet hm6)
        clear hev c0 c1 c2 c3 c4 c5 hw5
        obtain ⟨z, hz⟩ : ∃ z, evOf x dr = z := ⟨_, rfl⟩
        rw [hz] at hda6 hap6 ⊢
        have hap := hide (ev_apart (w := w5) (l' := z.data) (dp' := dp') ht.out.left (dp := dp) (l := x.e.data) hdl.out hap6)
        have hap' := hide (ev_apart (w := w5) (l' := z.data) (dp' := dp') ht.out.right (dp := dp) (l := x.e.data) hdl.out hap6)
        replace ht := hide (ht.out.quiet hm6)
        replace hda6 := hide hda6
        obtain ⟨iz1, iz2, iz3, iz4⟩ := evOf_in ik ih ia id' dr
        rw [hz] at iz1 iz2 iz3 iz4
        replace hz := hide hz
        clear hm6 hap6 hda
        go_upto_region 13 with (fail)
        have hEn : ¬ fpD Q w6.heap.size := fun x => Nat.lt_irrefl _ (ht.out.d.lt _ x)
        have hEm : ¬ fpD Q' w6.heap.size := fun x => Nat.lt_irrefl _ (ht.out.m.lt _ x)
        have hw7 := heap_alloc_new w6 (.cells #[.int .i64 z.kind, .int .i64 z.h, .int .i64 z.addr, .int .u64 (z.draw : Int), .slice dp' z.data.length dc'] 33)
        have hq7 : Mod NoB w6 (w6.alloc (.cells #[.int .i64 z.kind, .int .i64 z.h, .int .i64 z.addr, .int .u64 (z.draw : Int), .slice dp' z.data.length dc'] 33)) := (Mod.refl _ _).alloc _
        generalize w6.alloc (.cells #[.int .i64 z.kind, .int .i64 z.h, .int .i64 z.addr, .int .u64 (z.draw : Int), .slice dp' z.data.length dc'] 33) = w7 at *
        replace hda6 := hide (hda6.out.mod hq7)
        replace ht := hide (ht.out.quiet hq7)
        replace hmp := hide (hmp.out.quiet hq7)
        obtain ⟨bE, hbE⟩ : ∃ bE, w6.heap.size = bE := ⟨_, rfl⟩
        rw [hbE] at hw7 hEn hEm ⊢
        replace hEn := hide hEn
        replace hEm := hide hEm
        clear hq7
        replace hw7 := hide hw7
        replace hbE := hide hbE
        have x0 := cell_of_block hw7.out 0 (v := .int .i64 z.kind) rfl
        have x1 := cell_of_block hw7.out 1 (v := .int .i64 z.h) rfl
        have x2 := cell_of_block hw7.out 2 (v := .int .i64 z.addr) rfl
        have x3 := cell_of_block hw7.out 3 (v := .int .u64 (z.draw : Int)) rfl
        have x4 := cell_of_block hw7.out 4 (v := .slice dp' z.data.length dc') rfl
        have hN8 : (k : Int) ≤ 9007199254740992 := by have := hn80.out; omega
        have hN9 : 4 * (k : Int) ≤ 9007199254740000 := by have := hn80.out; omega
        by_cases hlt1 : z.h < la
        · skip
          go_wp2_with fail
          go_roundw
          case rel => exact ⟨k + 1, dr, Q, Q', d, m, asked, la, rfl, rfl, rfl, hkn, hdr.out, hq.out, hq'.out, hok.out, hcn.out.mono (by omega), hokm.out, hcnm.out.mono (by omega), hlk.out, hou.out, hdd.out, hdh.out, hmh.out, hla0, ht.out, hmp.out⟩
          case measure =>
            show n - ((k : Int) + 1).toNat < n - (k : Int).toNat
            omega
        by_cases hgt1 : 4611686018427387903 < z.h
        · skip
          go_wp2_with fail
          go_roundw
          case rel => exact ⟨k + 1, dr, Q, Q', d, m, asked, la, rfl, rfl, rfl, hkn, hdr.out, hq.out, hq'.out, hok.out, hcn.out.mono (by omega), hokm.out, hcnm.out.mono (by omega), hlk.out, hou.out, hdd.out, hdh.out, hmh.out, hla0, ht.out, hmp.out⟩
          case measure =>
            show n - ((k : Int) + 1).toNat < n - (k : Int).toNat
            omega
        replace hdh := hide (show d.h ≤ z.h from by have := hdh.out; omega)
        replace hmh := hide (show m.h ≤ z.h from by have := hmh.out; omega)
        have hz0 : 0 ≤ z.h := by omega
        have hdo := do_z (P := Q) hok.out hcn.out hN8 iz1 iz2 iz4 dp' dc' ht.out.d hda6.out hap.out
        have hdo2 := hide (fun wx (hx : DO wx Q' m) (hy : DataAt wx (.slice dp' z.data.length dc') z.data) => do_z (P := Q') hokm.out hcnm.out (Int.le_trans hN9 (by decide)) iz1 iz2 iz4 dp' dc' hx hy hap'.out)
        obtain ⟨hsk, hs16⟩ := do_sendsOk hok.out z
        obtain ⟨hok2, hcn2⟩ := hok.out.do (e := z) iz4 hcn.out hN8
        obtain ⟨hokm2, hcnm2⟩ := hokm.out.do (e := z) iz4 hcnm.out (Int.le_trans hN9 (by decide))
        have hel := err_like hdh.out hmh.out
        obtain ⟨hlk2, hoe⟩ := hlk.out.do hel.symm
        have hou2 := do_outs hok.out (e := z) hou.out
        have hdr2 := do_draw d z
        rw [hdd.out] at hdr2
        have hyh : (doS d z).1.h ≤ z.h ∧ (doS m z).1.h ≤ z.h := by
          by_cases h0 : errS d z = 0
          · rw [doS_h h0, doS_h (hel.trans h0)]
            exact ⟨Int.le_refl _, Int.le_refl _⟩
          · rw [doS_err h0, doS_err (d := m) (by rw [hel]; exact h0)]
            exact ⟨hdh.out, hmh.out⟩
        have hdf : errS d z = 0 → z.kind ≠ 0 → (doS d z).2.reason ≠ 0 → (doS d z).2.reason ≠ 8 → Like (doS d z).1 m := fun h0 hk a b => (do_deaf h0 hk ⟨a, b⟩).symm.trans hlk.out
        have hmore : errS d z = 0 → ∀ (m3 : DaemonS) (as2 : Int → Nat) (l : List Nat), Like (doS d z).1 m3 → m3.Ok → m3.h ≤ z.h → (doS d z).1.Out as2 → lookR l (as2 z.addr) ≠ 0 ∧ lookR l (as2 z.addr) ≠ 8 → _ := fun h0 m3 as2 l a b e f g => deaf_more a b h0 e f g
        obtain ⟨er, her⟩ : ∃ er, errS d z = er := ⟨_, rfl⟩
        obtain ⟨d', hd'⟩ : ∃ d', (doS d z).1 = d' := ⟨_, rfl⟩
        obtain ⟨m', hm'⟩ : ∃ m', (doS m z).1 = m' := ⟨_, rfl⟩
        obtain ⟨O, hO⟩ : ∃ O, (doS d z).2 = O := ⟨_, rfl⟩
        rw [her, hd', hO, hq.out] at hdo
        rw [hel, her, hm', ← hoe, hO, hq'.out] at hdo2
        rw [hO] at hsk hs16
        rw [hd'] at hok2 hcn2 hlk2 hyh hdr2
        rw [hd', hO] at hou2
        rw [her] at hdr2
        rw [her, hd', hO] at hdf hmore
        rw [hm'] at hokm2 hcnm2 hlk2 hyh
        clear hoe hel
        replace her := hide her
        replace hd' := hide hd'
        replace hm' := hide hm'
        replace hO := hide hO
        replace hdo := hide hdo
        replace hsk := hide hsk
        replace hok2 := hide hok2
        replace hcn2 := hide hcn2
        replace hlk2 := hide hlk2
        replace hou2 := hide hou2
        replace hdr2 := hide hdr2
        replace hdf := hide hdf
        replace hmore := hide hmore
        replace hokm2 := hide hokm2
        replace hcnm2 := hide hcnm2
        replace hyh := hide hyh
        go_wp2_with fail
        refine hdo.out.mono ?_
        rintro _ wb ⟨v, Q2, rfl, hd2, hto2, hs2⟩
        obtain ⟨p9, c9, hv9⟩ := hs2.slice
        subst hv9
        have hf1 := ht.out.m.lt
        have hb2 : Q2.b = P.b := hto2.b.trans hq.out
        have ht2 := ht.out.stepL hd2 hto2
        have hmp2 := hmp.out.toL hto2
        have hbw7 := hide hmp.out.lt
        have hda8 := (hto2.data hda6.out hap.out).1
        have hap2 := (hto2.data hda6.out hap.out).2
        have hw7b := (hto2.block hw7.out hEn.out).1
        have hEn2 := (hto2.block hw7.out hEn.out).2
        clear hdo x0 x1 x2 x3 x4 ht hd2 hto2 hw7 hda6 hmp
        go_upto_region 16 with (fail)
        have hwo := heap_alloc_new wb (.cells #[.slice p9 O.sends.length c9, .int .i64 O.clock, .int .i64 O.wake, .int .i64 O.reason] 39)
        have hqo : Mod NoB wb (wb.alloc (.cells #[.slice p9 O.sends.length c9, .int .i64 O.clock, .int .i64 O.wake, .int .i64 O.reason] 39)) := (Mod.refl _ _).alloc _
        generalize wb.alloc (.cells #[.slice p9 O.sends.length c9, .int .i64 O.clock, .int .i64 O.wake, .int .i64 O.reason] 39) = wo at *
        obtain ⟨bo, hbo⟩ : ∃ bo, wb.heap.size = bo := ⟨_, rfl⟩
        rw [hbo] at hwo ⊢
        have hno : ¬ fpD Q' bo := fun x => by have := ht2.m.lt _ x; omega
        have hblo : bl < bo := by have := hmp2.lt; omega
        have hblE := hide (hmp2.ne_cells hw7b)
        have hdl2 := hide (hmp2.ne_data hda8)
        replace ht2 := ht2.quiet hqo
        replace hmp2 := hmp2.quiet hqo
        replace hda8 := hda8.mod hqo
        replace hw7b := hqo.heap hw7b id
        replace hs2 := hs2.mod hqo (fun _ _ => id)
        have x0 := cell_of_block hw7b 0 (v := .int .i64 z.kind) rfl
        have x3 := cell_of_block hw7b 3 (v := .int .u64 (z.draw : Int)) rfl
        have y0 := cell_of_block hwo 0 (v := .slice p9 O.sends.length c9) rfl
        have y1 := cell_of_block hwo 1 (v := .int .i64 O.clock) rfl
        have y2 := cell_of_block hwo 2 (v := .int .i64 O.wake) rfl
        have y3 := cell_of_block hwo 3 (v := .int .i64 O.reason) rfl
        replace ht2 := hide ht2
        replace hmp2 := hide hmp2
        replace hda8 := hide hda8
        replace hap2 := hide hap2
        replace hw7b := hide hw7b
        replace hEn2 := hide hEn2
        replace hs2 := hide hs2
        replace hwo := hide hwo
        replace hno := hide hno
        replace hblo := hide hblo
        replace hbo := hide hbo
        replace hf1 := hide hf1
        clear hqo
        go_cut [115] (fun s115 wx => s115 = .bool (decide (er = 0 ∧ z.kind = 0 ∧ z.draw ≠ 0)) ∧ wx = wo)
        case first =>
          by_cases h0 : er = 0
          · subst h0
            by_cases hk0 : z.kind = 0
            · by_cases hd0 : z.draw = 0
              · have hb0 : ((z.draw : Int) != 0) = false := by simp [hd0]
                go_wp2_with fail
                go_meet
                exact ⟨by simp [hd0], rfl⟩
              · have hb0 : ((z.draw : Int) != 0) = true := by simpa using hd0
                go_wp2_with fail
                go_meet
                exact ⟨by simp [hk0, hd0], rfl⟩
            · have hb0 : (z.kind == 0) = false := by simpa using hk0
              go_wp2_with fail
              go_meet
              exact ⟨by simp [hk0], rfl⟩
          · have hb0 : (er == 0) = false := by simpa using h0
            go_wp2_with fail
            go_meet
            exact ⟨by simp [h0], rfl⟩
        case rest =>
          obtain ⟨rfl, rfl⟩ := hcut
          go_upto_if 115 with (fail)
          go_cut [13] (fun s13 wx => s13 = .int .u64 (d'.draw : Int) ∧ wx = wc)
          case first =>
            by_cases hc : er = 0 ∧ z.kind = 0 ∧ z.draw ≠ 0
            · have hcd : decide (er = 0 ∧ z.kind = 0 ∧ z.draw ≠ 0) = true := decide_eq_true hc
              have hdz : d'.draw = z.draw := by rw [hdr2.out, if_pos hc]
              replace hc := hide hc
              go_wp2_with fail
              go_meet
              exact ⟨by rw [hdz], rfl⟩
            · have hcd : decide (er = 0 ∧ z.kind = 0 ∧ z.draw ≠ 0) = false := decide_eq_false hc
              have hdz : d'.draw = dr := by rw [hdr2.out, if_neg hc]
              replace hc := hide hc
              go_wp2_with fail
              go_meet
              exact ⟨by rw [hdz], rfl⟩
          case rest =>
            obtain ⟨rfl, rfl⟩ := hcut
            go_wp2_with fail
            go_loopw [121] (fun s121 wx => ∃ j : Nat, s121 = .int .i64 j ∧ j ≤ O.sends.length ∧ Two w2 Q2 Q' d' m wx ∧ AskM w2 Q2 Q' bl (askedBy d'.draw (O.sends.take j) asked) wx ∧ Mod (fun k => k = bl) wc wx) (fun s121 wx => O.sends.length - (match s121 with | .int _ i => i.toNat | _ => 0))
            case atStart => exact ⟨0, rfl, Nat.zero_le _, ht2.out, by rw [List.take_zero, askedBy_nil]; exact hmp2.out, Mod.refl _ _⟩
            case round =>
             as_aux_lemma =>
              obtain ⟨j, rfl, hj, ht3, hmp3, hm5⟩ := hrel
              by_cases hjn : j < O.sends.length
              · obtain ⟨sj, hsj⟩ : ∃ sj, O.sends[j]? = some sj := ⟨O.sends[j]'hjn, List.getElem?_eq_getElem hjn⟩
                obtain ⟨g1, c1, u1, hv, hg0, q10, q11, hu1⟩ := sends_at (hs2.out.mod hm5 (fun k hk e => by have := hbw7.out; omega)) hsj
                obtain ⟨rfl, _, rfl⟩ := Value.slice.inj hv
                have hji : (j : Int) < O.sends.length := by omega
                have hstep := askedBy_step d'.draw O.sends asked hsj
                obtain ⟨e1, m1, rfl⟩ := own_value hu1
                replace ht3 := hide ht3
                replace hmp3 := hide hmp3
                replace hsj := hide hsj
                replace hu1 := hide hu1
                replace hstep := hide hstep
                clear hv
                go_upto_region 21 with (fail)
                have hsx := heap_alloc_new wr (.cells #[.int .i64 sj.1, .slice e1 sj.2.length m1] 43)
                have hqx : Mod NoB wr (wr.alloc (.cells #[.int .i64 sj.1, .slice e1 sj.2.length m1] 43)) := (Mod.refl _ _).alloc _
                generalize wr.alloc (.cells #[.int .i64 sj.1, .slice e1 sj.2.length m1] 43) = ws at *
                obtain ⟨sb, hsbs⟩ : ∃ sb, wr.heap.size = sb := ⟨_, rfl⟩
                rw [hsbs] at hsx ⊢
                have s0 := cell_of_block hsx 0 (v := .int .i64 sj.1) rfl
                obtain ⟨o, hrun, hmpn⟩ := (hmp3.out.quiet hqx).put sj.1 d'.draw
                rw [← hstep.out] at hmpn
                have hmo : Mod (fun k => k = bl) ws (setO ws bl o) := setO_mod o
                have hon := (ht3.out.quiet hqx).put hmo (fun k e => by subst e; exact hmpn.nl) (fun k e => by subst e; exact hmpn.nr) (fun k e => by subst e; exact hmpn.lo)
                replace hm5 := hide ((hm5.trans (hqx.mono (fun _ _ f => f.elim))).trans hmo)
                replace hon := hide hon
                replace hmpn := hide hmpn
                replace hmo := hide hmo
                clear hqx hsx q10 q11 hsbs
                go_wp2_with fail
                go_roundw
                case rel => exact ⟨j + 1, rfl, hjn, hon.out, hmpn.out, hm5.out⟩
                case measure =>
                  show O.sends.length - ((j : Int) + 1).toNat < O.sends.length - (j : Int).toNat
                  omega
              · have hji : ¬ ((j : Int) < O.sends.length) := by omega
                have hje : O.sends.take j = O.sends := List.take_of_length_le (by omega)
                rw [hje] at hmp3
                obtain ⟨as2, has2⟩ : ∃ as2, askedBy d'.draw O.sends asked = as2 := ⟨_, rfl⟩
                rw [has2] at hmp3
                have hou3 : d'.Out as2 := by rw [← has2]; exact hou2.out
                replace has2 := hide has2
                replace hou3 := hide hou3
                have hblO : bo ≠ bl := fun e => by have := hblo.out; omega
                have hs5 := hs2.out.mod hm5 (fun k hk e => by have := hbw7.out; omega)
                have hw7c := hm5.heap hw7b.out hblE.out
                have hwoc := hm5.heap hwo.out hblO
                have hda9 := DataAt.modS hda8.out hm5 (fun bd off n c e h0 hk => by
                  obtain ⟨rfl, _⟩ := Value.slice.inj e
                  exact hdl2.out bd off rfl h0 hk)
                replace ht3 := hide ht3
                replace hmp3 := hide hmp3
                replace hs5 := hide hs5
                clear hm5 x0 x3 y0 y1 y2 y3 hs2 hmp2 ht2
                have x0 := cell_of_block hw7c 0 (v := .int .i64 z.kind) rfl
                have y0 := cell_of_block hwoc 0 (v := .slice p9 O.sends.length c9) rfl
                have y1 := cell_of_block hwoc 1 (v := .int .i64 O.clock) rfl
                have y2 := cell_of_block hwoc 2 (v := .int .i64 O.wake) rfl
                have y3 := cell_of_block hwoc 3 (v := .int .i64 O.reason) rfl
                replace hw7c := hide hw7c
                replace hwoc := hide hwoc
                replace hda9 := hide hda9
                by_cases hskip : er = 0 ∧ z.kind = 1 ∧ O.reason ≠ 0 ∧ O.reason ≠ 8
                · obtain ⟨h0, hk1, hr0, hr8⟩ := hskip
                  subst h0
                  have hlk3 := hdf.out rfl (by omega) hr0 hr8
                  have hb1 : (O.reason != 0) = true := by simpa using hr0
                  have hb2' : (O.reason != 8) = true := by simpa using hr8
                  replace hlk3 := hide hlk3
                  go_wp2_with fail
                  go_roundw
                  case rel => exact ⟨k + 1, d'.draw, Q2, Q', d', m, as2, z.h, rfl, rfl, rfl, hkn, hok2.out.dr, hb2, hq'.out, hok2.out, hcn2.out, hokm.out, hcnm.out.mono (by omega), hlk3.out, hou3.out, rfl, hyh.out.1, hmh.out, hz0, ht3.out, hmp3.out⟩
                  case measure =>
                    show n - ((k : Int) + 1).toNat < n - (k : Int).toNat
                    omega
                · go_upto_region 23 with (fail)
                  go_cut [146] (fun s146 wx => s146 = .bool false ∧ wx = wr)
                  case first =>
                    by_cases h0 : er = 0
                    · subst h0
                      by_cases hk1 : z.kind = 1
                      · by_cases hr0 : O.reason = 0
                        · have hb1 : (O.reason != 0) = false := by simp [hr0]
                          go_wp2_with fail
                          go_meet
                          exact ⟨rfl, rfl⟩
                        · have hb1 : (O.reason != 0) = true := by simpa using hr0
                          by_cases hr8 : O.reason = 8
                          · have hb8 : (O.reason != 8) = false := by simp [hr8]
                            go_wp2_with fail
                            go_meet
                            exact ⟨rfl, rfl⟩
                          · exact absurd ⟨rfl, hk1, hr0, hr8⟩ hskip
                      · have hb0 : (z.kind == 1) = false := by simpa using hk1
                        go_wp2_with fail
                        go_meet
                        exact ⟨rfl, rfl⟩
                    · have hb0 : (er == 0) = false := by simpa using h0
                      go_wp2_with fail
                      go_meet
                      exact ⟨rfl, rfl⟩
                  case rest =>
                   as_aux_lemma =>
                    obtain ⟨rfl, rfl⟩ := hcut
                    have hdo3 := hide (hdo2.out wc ht3.out.m hda9.out)
                    clear x0 y0 y1 y2 y3 hda9 hda8 hskip hjn hj hji hje hdo2
                    have x0 := cell_of_block hw7c.out 0 (v := .int .i64 z.kind) rfl
                    have x1 := cell_of_block hw7c.out 1 (v := .int .i64 z.h) rfl
                    have x2 := cell_of_block hw7c.out 2 (v := .int .i64 z.addr) rfl
                    have x3 := cell_of_block hw7c.out 3 (v := .int .u64 (z.draw : Int)) rfl
                    have x4 := cell_of_block hw7c.out 4 (v := .slice dp' z.data.length dc') rfl
                    go_wp2_with fail
                    refine hdo3.out.mono ?_
                    rintro _ wd ⟨v, Q3, rfl, hd3, hto3, hs3⟩
                    obtain ⟨p8, c8, hv8⟩ := hs3.slice
                    subst hv8
                    have ht4 := ht3.out.stepR hd3 hto3
                    have hmp4 := hmp3.out.toR hto3
                    have hb3 : Q3.b = P'.b := hto3.b.trans hq'.out
                    obtain ⟨hwo3, hnoR⟩ := hto3.block hwoc.out hno.out
                    obtain ⟨hw7d, hER⟩ := hto3.block hw7c.out hEm.out
                    have hs4 := hto3.sends hs5.out hf1.out
                    clear hdo3 x0 x1 x2 x3 x4 hd3 hto3 hs5 hwoc hw7c ht3 hmp3
                    go_upto_region 25 with (fail)
                    have hwp := heap_alloc_new wd (.cells #[.slice p8 O.sends.length c8, .int .i64 O.clock, .int .i64 O.wake, .int .i64 O.reason] 39)
                    have hqp : Mod NoB wd (wd.alloc (.cells #[.slice p8 O.sends.length c8, .int .i64 O.clock, .int .i64 O.wake, .int .i64 O.reason] 39)) := (Mod.refl _ _).alloc _
                    generalize wd.alloc (.cells #[.slice p8 O.sends.length c8, .int .i64 O.clock, .int .i64 O.wake, .int .i64 O.reason] 39) = we at *
                    replace ht4 := ht4.quiet hqp
                    replace hmp4 := hmp4.quiet hqp
                    replace hs3 := hs3.mod hqp (fun _ _ => id)
                    replace hs4 := hs4.mod hqp (fun _ _ => id)
                    replace hwo3 := hqp.heap hwo3 id
                    replace hw7d := hqp.heap hw7d id
                    have y0 := cell_of_block hwo3 0 (v := .slice p9 O.sends.length c9) rfl
                    have y1 := cell_of_block hwo3 1 (v := .int .i64 O.clock) rfl
                    have y2 := cell_of_block hwo3 2 (v := .int .i64 O.wake) rfl
                    have y3 := cell_of_block hwo3 3 (v := .int .i64 O.reason) rfl
                    have z0 := cell_of_block hwp 0 (v := .slice p8 O.sends.length c8) rfl
                    have z1 := cell_of_block hwp 1 (v := .int .i64 O.clock) rfl
                    have z2 := cell_of_block hwp 2 (v := .int .i64 O.wake) rfl
                    have z3 := cell_of_block hwp 3 (v := .int .i64 O.reason) rfl
                    have hsm := hide (same_out _ _ O.sends O.clock O.wake O.reason _ _ we hs4 hs3 hsk.out (Nat.le_trans hs16 (by decide)))
                    have hed := hide (fun wx (hx : DO wx Q2 d') => dchosen_any Q2 d' wx hx)
                    have hem := hide (fun wx (hx : DO wx Q3 m') => dchosen_any Q3 m' wx hx)
                    rw [hb2] at hed
                    rw [hb3, hlk2.out.parts.2.2.2.2.2.2.2] at hem
                    replace ht4 := hide ht4
                    replace hmp4 := hide hmp4
                    replace hw7d := hide hw7d
                    replace hwo3 := hide hwo3
                    replace hnoR := hide hnoR
                    replace hER := hide hER
                    clear hqp hs3 hs4 hwp
                    go_wp2_with fail
                    refine hsm.out.mono ?_
                    rintro _ wf ⟨rfl, hmf⟩
                    replace ht4 := hide (ht4.out.quiet hmf)
                    replace hmp4 := hide (hmp4.out.quiet hmf)
                    replace hw7d := hide (hmf.heap hw7d.out id)
                    replace hwo3 := hide (hmf.heap hwo3.out id)
                    clear hmf hsm y0 y1 y2 y3 z0 z1 z2 z3
                    go_wp2_with fail
                    refine (hed.out _ ht4.out.d).mono ?_
                    rintro _ _ ⟨rfl, rfl⟩
                    go_wp2_with fail
                    refine (hem.out _ ht4.out.m).mono ?_
                    rintro _ _ ⟨rfl, rfl⟩
                    clear hed hem
                    by_cases h0 : er = 0
                    · subst h0
                      have hmr := hide (hmore.out rfl)
                      obtain ⟨g1, hg1, hg2⟩ : ∃ g1 : Nat, IntKind.u64.wrap ((d'.draw : Int) + 1) = (g1 : Int) ∧ g1 < 18446744073709551616 := by
                        refine ⟨(d'.draw + 1) % 18446744073709551616, ?_, Nat.mod_lt _ (by decide)⟩
                        have u : ∀ x : Int, IntKind.u64.wrap x = x % 18446744073709551616 := fun x => by unfold IntKind.wrap; simp [IntKind.bits, IntKind.signed]
                        rw [u]
                        omega
                      have hgd : Hid (∀ wx, Calls Tryz.prog 22 #[.int .u64 (g1 : Int), .int .u64 1, .int .u64 1] wx (BytesOut (goodP g1 1 1).bytes wx)) := hide (fun wx => sgood_any g1 1 1 hg2 (by decide) (by decide) wx)
                      have hlt := hide (good_lt g1 1 1)
                      have hlen := hide (good_len g1 1 1)
                      generalize (goodP g1 1 1).bytes = qb at *
                      go_wp2_with fail
                      refine (hgd.out wf).mono ?_
                      rintro _ wg ⟨v, rfl, hown, hma⟩
                      obtain ⟨g9, c9', hv, hgb, hc1', hc2', hby⟩ := own_data hown hlt.out (by have := hlen.out; omega)
                      subst hv
                      have hdg : DataAt wg (.slice (some ⟨g9, 0, none⟩) qb.length c9') qb := own_dataAt hown hlt.out (by have := hlen.out; omega) (by have := hlen.out; omega)
                      have hdb := hB.out.mod ((hm1.out.trans ht4.out.old).trans hma)
                      have hgQ : ¬ fpD Q2 g9 ∧ ¬ fpD Q3 g9 := ⟨fun f => by have := ht4.out.d.lt _ f; omega, fun f => by have := ht4.out.m.lt _ f; omega⟩
                      have hbQ : ∀ bd off, bp = some ⟨bd, off, none⟩ → 0 < lb.length → ¬ fpD Q2 bd ∧ ¬ fpD Q3 bd := fun bd off e h0 => by
                        have h1 := hBl.out bd off e h0
                        have h2 := hm1.out.size
                        exact ⟨fun f => by have := ht4.out.loL _ f; omega, fun f => by have := ht4.out.loR _ f; omega⟩
                      replace ht4 := hide (ht4.out.quiet hma)
                      replace hmp4 := hide (hmp4.out.quiet hma)
                      replace hw7d := hide (hma.heap hw7d.out id)
                      replace hwo3 := hide (hma.heap hwo3.out id)
                      replace hdg := hide hdg
                      replace hdb := hide hdb
                      replace hgQ := hide hgQ
                      replace hbQ := hide hbQ
                      clear hma hown hby hgb hgd hlt
                      go_upto_region 29 with (fail)
                      have hsb := heap_alloc_new wg (.cells #[.slice bp lb.length bc, .slice (some ⟨g9, 0, none⟩) qb.length c9', .slice none 0 0] 23)
                      have hqs : Mod NoB wg (wg.alloc (.cells #[.slice bp lb.length bc, .slice (some ⟨g9, 0, none⟩) qb.length c9', .slice none 0 0] 23)) := (Mod.refl _ _).alloc _
                      generalize wg.alloc (.cells #[.slice bp lb.length bc, .slice (some ⟨g9, 0, none⟩) qb.length c9', .slice none 0 0] 23) = wh at *
                      obtain ⟨bS, hbS⟩ : ∃ bS, wg.heap.size = bS := ⟨_, rfl⟩
                      rw [hbS] at hsb ⊢
                      have hca : Cands w2 Q2 Q3 bS wh := by
                        refine ⟨fun i hi => ?_, fun f => by have := ht4.out.d.lt _ f; omega, fun f => by have := ht4.out.m.lt _ f; omega, lt_of_block hsb⟩
                        match i, hi with
                        | 0, _ => exact ⟨bp, lb, bc, cell_of_block hsb 0 rfl, hdb.out.mod hqs, hbQ.out⟩
                        | 1, _ => exact ⟨_, qb, c9', cell_of_block hsb 1 rfl, hdg.out.mod hqs, fun bd off e _ => by cases e; exact hgQ.out⟩
                        | 2, _ => exact ⟨none, [], 0, cell_of_block hsb 2 rfl, ⟨none, 0, rfl, by simp, fun h => by simp at h⟩, fun bd off e => by cases e⟩
                      replace ht4 := hide (ht4.out.quiet hqs)
                      replace hmp4 := hide (hmp4.out.quiet hqs)
                      replace hw7d := hide (hqs.heap hw7d.out id)
                      replace hwo3 := hide (hqs.heap hwo3.out id)
                      replace hca := hide hca
                      replace hbS := hide hbS
                      clear hqs hsb hdg hdb hgQ hbQ
                      have h4k : (4 * (k : Int) + 1) = 4 * (k : Int) + 1 := rfl
                      go_wp2_with fail
                      go_loopw [177] (fun s177 wx => ∃ (i : Nat) (Q4 : DPl) (m4 : DaemonS), s177 = .int .i64 i ∧ i ≤ 3 ∧ Q4.b = P'.b ∧ m4.Ok ∧ m4.Cnt (4 * (k : Int) + 1 + i) ∧ Like d' m4 ∧ m4.h ≤ z.h ∧ Two w2 Q2 Q4 d' m4 wx ∧ AskM w2 Q2 Q4 bl as2 wx ∧ Cands w2 Q2 Q4 bS wx ∧ wx.heap[bE]? = some (.cells #[.int .i64 z.kind, .int .i64 z.h, .int .i64 z.addr, .int .u64 (z.draw : Int), .slice dp' z.data.length dc'] 33 (0, 0)) ∧ ¬ fpD Q4 bE ∧ wx.heap[bo]? = some (.cells #[.slice p9 O.sends.length c9, .int .i64 O.clock, .int .i64 O.wake, .int .i64 O.reason] 39 (0, 0)) ∧ ¬ fpD Q4 bo) (fun s177 wx => 3 - (match s177 with | .int _ i => i.toNat | _ => 0))
                      case atStart => exact ⟨0, Q3, m', rfl, Nat.zero_le _, hb3, hokm2.out, hcnm2.out.mono (by omega), hlk2.out, hyh.out.2, ht4.out, hmp4.out, hca.out, hw7d.out, hER.out, hwo3.out, hnoR.out⟩
                      case round =>
                       as_aux_lemma =>
                        obtain ⟨i, Q4, m4, rfl, hi, hb4, hok4, hcn4, hlk4, hh4, ht5, hmp5, hca5, hE5, hE5n, hO5, hO5n⟩ := hrel
                        by_cases hi3 : i < 3
                        · obtain ⟨dp3, l3, c3, hcell, hd3, hap3⟩ := hca5.c i hi3
                          have hii : (i : Int) < 3 := by omega
                          obtain ⟨why, hwhy⟩ : ∃ why, lookR l3 (as2 z.addr) = why := ⟨_, rfl⟩
                          have hlok := look_dat hd3 (as2 z.addr)
                          obtain ⟨pk, hpk⟩ : ∃ pk, lookP l3 (as2 z.addr) = pk := ⟨_, rfl⟩
                          rw [hwhy, hpk] at hlok
                          have ev : pk.val = .agg #[.int .u8 pk.leap, .int .u8 pk.version, .int .u8 pk.mode, .int .u8 pk.stratum, .int .i8 pk.poll, .int .i8 pk.prec, .int .u32 pk.delay, .int .u32 pk.disp, .int .u32 pk.refs, .int .u64 pk.ref, .int .u64 pk.orig, .int .u64 pk.recv, .int .u64 pk.xmit] := rfl
                          rw [ev] at hlok
                          have hlk := hmp5.look z.addr
                          have x1 := cell_of_block hE5 1 (v := .int .i64 z.h) rfl
                          have x2 := cell_of_block hE5 2 (v := .int .i64 z.addr) rfl
                          replace ht5 := hide ht5
                          replace hmp5 := hide hmp5
                          replace hca5 := hide hca5
                          replace hE5 := hide hE5
                          replace hE5n := hide hE5n
                          replace hO5 := hide hO5
                          replace hO5n := hide hO5n
                          replace hd3 := hide hd3
                          replace hap3 := hide hap3
                          replace hwhy := hide hwhy
                          replace hpk := hide hpk
                          replace hok4 := hide hok4
                          replace hcn4 := hide hcn4
                          replace hlk4 := hide hlk4
                          replace hlok := hide hlok
                          replace hb4 := hide hb4
                          clear ev
                          go_wp2_with fail
                          refine hlok.out.mono ?_
                          rintro _ wi ⟨rfl, hmi⟩
                          replace ht5 := hide (ht5.out.quiet hmi)
                          replace hmp5 := hide (hmp5.out.quiet hmi)
                          replace hca5 := hide (hca5.out.quiet hmi)
                          replace hE5 := hide (hmi.heap hE5.out id)
                          replace hO5 := hide (hmi.heap hO5.out id)
                          replace hd3 := hide (hd3.out.mod hmi)
                          clear hmi hlok hlk x1 x2 hcell
                          go_upto_region 32 with (fail)
                          have hqp2 : Mod NoB wi (wi.alloc (.cells #[.int .u8 pk.leap, .int .u8 pk.version, .int .u8 pk.mode, .int .u8 pk.stratum, .int .i8 pk.poll, .int .i8 pk.prec, .int .u32 pk.delay, .int .u32 pk.disp, .int .u32 pk.refs, .int .u64 pk.ref, .int .u64 pk.orig, .int .u64 pk.recv, .int .u64 pk.xmit] 51)) := (Mod.refl _ _).alloc _
                          generalize wi.alloc (.cells #[.int .u8 pk.leap, .int .u8 pk.version, .int .u8 pk.mode, .int .u8 pk.stratum, .int .i8 pk.poll, .int .i8 pk.prec, .int .u32 pk.delay, .int .u32 pk.disp, .int .u32 pk.refs, .int .u64 pk.ref, .int .u64 pk.orig, .int .u64 pk.recv, .int .u64 pk.xmit] 51) = wj at *
                          replace ht5 := hide (ht5.out.quiet hqp2)
                          replace hmp5 := hide (hmp5.out.quiet hqp2)
                          replace hca5 := hide (hca5.out.quiet hqp2)
                          replace hE5 := hide (hqp2.heap hE5.out id)
                          replace hO5 := hide (hqp2.heap hO5.out id)
                          replace hd3 := hide (hd3.out.mod hqp2)
                          clear hqp2
                          by_cases hw0 : why = 0 ∨ why = 8
                          · rcases hw0 with rfl | rfl
                            · skip
                              go_wp2_with fail
                              go_roundw
                              case rel => exact ⟨i + 1, Q4, m4, rfl, hi3, hb4.out, hok4.out, hcn4.out.mono (by omega), hlk4.out, hh4, ht5.out, hmp5.out, hca5.out, hE5.out, hE5n.out, hO5.out, hO5n.out⟩
                              case measure =>
                                show 3 - ((i : Int) + 1).toNat < 3 - (i : Int).toNat
                                omega
                            · skip
                              go_wp2_with fail
                              go_roundw
                              case rel => exact ⟨i + 1, Q4, m4, rfl, hi3, hb4.out, hok4.out, hcn4.out.mono (by omega), hlk4.out, hh4, ht5.out, hmp5.out, hca5.out, hE5.out, hE5n.out, hO5.out, hO5n.out⟩
                              case measure =>
                                show 3 - ((i : Int) + 1).toNat < 3 - (i : Int).toNat
                                omega
                          · have hwn : why ≠ 0 ∧ why ≠ 8 := ⟨fun e => hw0 (Or.inl e), fun e => hw0 (Or.inr e)⟩
                            have hwb0 : (why == 0) = false := by simpa using hwn.1
                            have hwb8 : (why == 8) = false := by simpa using hwn.2
                            have hw2 : lookR l3 (as2 z.addr) ≠ 0 ∧ lookR l3 (as2 z.addr) ≠ 8 := by rw [hwhy.out]; exact hwn
                            obtain ⟨g1, g2, g3, g4, g5, g6, g7⟩ := hmr.out m4 as2 l3 hlk4.out hok4.out hh4 hou3.out hw2
                            have hdo5 : Calls Tryz.prog 19 #[at0 Q4.b, .agg #[.int .i64 1, .int .i64 z.h, .int .i64 z.addr, .int .u64 0, .slice dp3 l3.length c3]] wj _ := deaf_do ⟨g1, g3, g4, g5⟩ (do_z (P := Q4) (z := ⟨1, z.h, z.addr, 0, l3⟩) hok4.out hcn4.out (by omega) ⟨by simp, by simp⟩ iz2 (by simp) dp3 c3 ht5.out.m hd3.out (fun bd off e h0 => (hap3.out bd off e h0).2))
                            obtain ⟨hok6, hcn6⟩ := hok4.out.do (e := ⟨1, z.h, z.addr, 0, l3⟩) (by simp) hcn4.out (by omega)
                            obtain ⟨m6, hm6⟩ : ∃ m6, (doS m4 ⟨1, z.h, z.addr, 0, l3⟩).1 = m6 := ⟨_, rfl⟩
                            obtain ⟨rz, hrz⟩ : ∃ rz, (doS m4 ⟨1, z.h, z.addr, 0, l3⟩).2.reason = rz := ⟨_, rfl⟩
                            rw [hm6, hrz, hb4.out] at hdo5
                            rw [hm6] at hok6 hcn6 g2 g7
                            rw [hrz] at g6
                            have hrb0 : (rz == 0) = false := by simpa using g6.1
                            have hrb8 : (rz == 8) = false := by simpa using g6.2
                            have x1 := cell_of_block hE5.out 1 (v := .int .i64 z.h) rfl
                            have x2 := cell_of_block hE5.out 2 (v := .int .i64 z.addr) rfl
                            replace hdo5 := hide hdo5
                            replace hm6 := hide hm6
                            replace hrz := hide hrz
                            replace g2 := hide g2
                            replace hok6 := hide hok6
                            replace hcn6 := hide hcn6
                            replace hw2 := hide hw2
                            replace hwn := hide hwn
                            replace g6 := hide g6
                            replace g7 := hide (Int.le_of_eq g7)
                            clear g1 g3 g4 g5
                            go_wp2_with fail
                            refine hdo5.out.mono ?_
                            rintro _ wl ⟨p7, c7, Q6, rfl, hd6, hto6⟩
                            have ht6 := ht5.out.stepR hd6 hto6
                            have hmp6 := hmp5.out.toR hto6
                            have hca6 := hca5.out.toR hto6
                            obtain ⟨hE6, hE6n⟩ := hto6.block hE5.out hE5n.out
                            obtain ⟨hO6, hO6n⟩ := hto6.block hO5.out hO5n.out
                            have hb6 : Q6.b = P'.b := hto6.b.trans hb4.out
                            clear hdo5 hd6 hto6 x1 x2 ht5 hmp5 hca5 hE5 hO5 hE5n hO5n hd3 hap3
                            go_upto_region 34 with (fail)
                            have hwq := heap_alloc_new wl (.cells #[.slice p7 0 c7, .int .i64 O.clock, .int .i64 O.wake, .int .i64 rz] 39)
                            have hqq : Mod NoB wl (wl.alloc (.cells #[.slice p7 0 c7, .int .i64 O.clock, .int .i64 O.wake, .int .i64 rz] 39)) := (Mod.refl _ _).alloc _
                            generalize wl.alloc (.cells #[.slice p7 0 c7, .int .i64 O.clock, .int .i64 O.wake, .int .i64 rz] 39) = wn at *
                            replace ht6 := hide (ht6.quiet hqq)
                            replace hmp6 := hide (hmp6.quiet hqq)
                            replace hca6 := hide (hca6.quiet hqq)
                            replace hE6 := hide (hqq.heap hE6 id)
                            replace hO6 := hqq.heap hO6 id
                            have y1 := cell_of_block hO6 1 (v := .int .i64 O.clock) rfl
                            have y2 := cell_of_block hO6 2 (v := .int .i64 O.wake) rfl
                            have v0 := cell_of_block hwq 0 (v := .slice p7 0 c7) rfl
                            have v1 := cell_of_block hwq 1 (v := .int .i64 O.clock) rfl
                            have v2 := cell_of_block hwq 2 (v := .int .i64 O.wake) rfl
                            have v3 := cell_of_block hwq 3 (v := .int .i64 rz) rfl
                            replace hO6 := hide hO6
                            replace hE6n := hide hE6n
                            replace hO6n := hide hO6n
                            clear hqq hwq
                            go_wp2_with fail
                            go_roundw
                            case rel => exact ⟨i + 1, Q6, m6, rfl, hi3, hb6, hok6.out, hcn6.out.mono (by omega), g2.out, g7.out, ht6.out, hmp6.out, hca6.out, hE6.out, hE6n.out, hO6.out, hO6n.out⟩
                            case measure =>
                              show 3 - ((i : Int) + 1).toNat < 3 - (i : Int).toNat
                              omega
                        · have hii : ¬ ((i : Int) < 3) := by omega
                          replace ht5 := hide ht5
                          replace hmp5 := hide hmp5
                          clear hca5 hE5 hO5
                          go_wp2_with fail
                          go_roundw
                          case rel => exact ⟨k + 1, d'.draw, Q2, Q4, d', m4, as2, z.h, rfl, rfl, rfl, hkn, hok2.out.dr, hb2, hb4, hok2.out, hcn2.out, hok4, hcn4.mono (by omega), hlk4, hou3.out, rfl, hyh.out.1, hh4, hz0, ht5.out, hmp5.out⟩
                          case measure =>
                            show n - ((k : Int) + 1).toNat < n - (k : Int).toNat
                            omega
                    · have hb0 : (er != 0) = true := by simpa using h0
                      go_wp2_with fail
                      go_roundw
                      case rel => exact ⟨k + 1, d'.draw, Q2, Q3, d', m', as2, z.h, rfl, rfl, rfl, hkn, hok2.out.dr, hb2, hb3, hok2.out, hcn2.out, hokm2.out, hcnm2.out.mono (by omega), hlk2.out, hou3.out, rfl, hyh.out.1, hyh.out.2, hz0, ht4.out, hmp4.out⟩
                      case measure =>
                        show n - ((k : Int) + 1).toNat < n - (k : Int).toNat
                        omega
      · have hkf : ¬ ((k : Int) < n) := by omega
        have hmz := hide (hm1.out.trans ht.old)
        replace ht := hide ht
        clear hm3
        go_wp2_with fail
        refine (hal.out _ hmz.out).mono ?_
        rintro e w8 ⟨rfl, hm8⟩
        replace hmz := hide (hmz.out.trans hm8)
        clear hm8
        go_wp2_with fail
        go_ret
        exact ⟨rfl, hmz.out⟩
end Go.Proofs.YtjlilmonpklghaaGreatDoor.daemonDeaf
