/- A clock that is set by so much from the beginning on, and servers' stamps that are set by as much, do the same: what is sent, and when. No condition. -/
import Derived.Test.YtjlilmonpklghaaGreatDoorPUbi
import Derived.Test.YtjlilmonpklghaaGreatDoorPUbj
import Derived.Test.YtjlilmonpklghaaGreatDoorPUam
import Derived.Lay
namespace Go.Proofs.YtjlilmonpklghaaGreatDoor.daemonApart
open Go.ChangeShapes Go.WideShapes Go.ChangeAt Go.RowKit Go.Proofs.YtjlilmonpklghaaGreatDoor
set_option linter.unusedVariables false
set_option linter.unusedSimpArgs false

theorem newErr_by {s : Int} (h0 : -2147483648 ≤ s) (h1 : s ≤ 2147483647) : newErr 0 (s * 1000000000) = 0 := by
  unfold newErr maxHard
  rw [if_neg (by omega)]
theorem newOut_by {s : Int} (h0 : -2147483648 ≤ s) (h1 : s ≤ 2147483647) (l : List UInt8) : newOut l 0 (s * 1000000000) = newOut l 0 0 := by
  unfold newOut
  rw [newErr_by h0 h1, show newErr 0 0 = 0 by decide]
theorem stamp_by (s : Int) (a : Nat) : IntKind.u64.wrap ((a : Int) + IntKind.u64.wrap (IntKind.u64.wrap s * 4294967296)) = ((shiftN s a : Nat) : Int) := by
  have u : ∀ x : Int, IntKind.u64.wrap x = x % 18446744073709551616 := fun x => by unfold IntKind.wrap; simp [IntKind.bits, IntKind.signed]
  rw [u, u, u]
  unfold shiftN
  omega
theorem do_clock_in {d : DaemonS} (hd : d.Ok) {e : EvS} (h0 : errS d e = 0) : I64 (doS d e).2.clock := by
  obtain ⟨_, e2, e3, e4⟩ := err_none h0
  obtain ⟨k1, _⟩ := do_clock hd h0
  have e3 : e.h ≤ 4611686018427387903 := e3
  have hk0 := hd.h0
  rw [k1]
  exact (hd.k.at (h := e.h) (by omega) e3).fits.2.1
/-- The second daemon's Do, told by what the first one does. -/
theorem apart_do {P : DPl} {d m : DaemonS} {z z2 : EvS} {s : Int} {b : Nat} {V : Value} {w : World}
    (h : errS m z2 = errS d z ∧ Shifted s (doS d z).1 (doS m z2).1 ∧ (doS m z2).2.sends = (doS d z).2.sends ∧ (doS m z2).2.wake = (doS d z).2.wake ∧ (doS m z2).2.reason = (doS d z).2.reason ∧ (errS d z = 0 → (doS m z2).2.clock = (doS d z).2.clock + s * 1000000000))
    (hdo : Calls Tryz.prog 19 #[at0 b, V] w (DoPost P (doS m z2).1 (doS m z2).2 (errS m z2) w)) :
    Calls Tryz.prog 19 #[at0 b, V] w (fun e w' => ∃ v P1, e = .returned (.tuple #[.agg #[v, .int .i64 (doS m z2).2.clock, .int .i64 (doS d z).2.wake, .int .i64 (doS d z).2.reason], .int .i64 (errS d z)]) ∧
      DO w' P1 (doS m z2).1 ∧ DTo P P1 w w' ∧ SendsAt w' w.heap.size v (doS d z).2.sends) := by
  obtain ⟨h1, _, h3, h4, h5, _⟩ := h
  refine hdo.mono ?_
  rintro e w' ⟨v, P1, he, g1, g2, g3⟩
  exact ⟨v, P1, by rw [he, h1, h4, h5], g1, g2, h3 ▸ g3⟩
theorem set5_mod (w : World) (b : Nat) (v0 v1 v2 v3 v4 : Value) : Mod (· = b) w (((((w.setCell ⟨b, 0, none⟩ v0).setCell ⟨b, 1, none⟩ v1).setCell ⟨b, 2, none⟩ v2).setCell ⟨b, 3, none⟩ v3).setCell ⟨b, 4, none⟩ v4) := (((((Mod.refl _ _).set1 _ _).set1 _ _).set1 _ _).set1 _ _).set1 _ _
theorem cell5_far {w : World} {b c o : Nat} {v0 v1 v2 v3 v4 x : Value} (h : c ≠ b) (hx : w.cell? ⟨c, o, none⟩ = some x) : (((((w.setCell ⟨b, 0, none⟩ v0).setCell ⟨b, 1, none⟩ v1).setCell ⟨b, 2, none⟩ v2).setCell ⟨b, 3, none⟩ v3).setCell ⟨b, 4, none⟩ v4).cell? ⟨c, o, none⟩ = some x :=
  (set5_mod w b v0 v1 v2 v3 v4).cellAt h hx
theorem err_le (d : DaemonS) (e : EvS) : 0 ≤ errS d e := (err_in d e).1
/-- Both events, of one that isn't a good answer. -/
theorem apart_same {z : EvS} (s : Int) (h : z.kind ≠ 1) : z.kind = 1 → z.data.length = z.data.length ∧ (∀ k, lookR z.data k = lookR z.data k) ∧ (pktOf z.data).recv = shiftN s (pktOf z.data).recv ∧ (pktOf z.data).xmit = shiftN s (pktOf z.data).xmit := fun e => absurd e h
set_option maxRecDepth 100000 in
set_option maxHeartbeats 80000000 in
theorem walk (l : List UInt8) (hl : l.length ≤ 9223372036854775807) (p : Option Addr) (cap : Nat) (L : List ActS) (hLl : L.length ≤ 9223372036854775807) (sh : Int) (hs0 : -2147483648 ≤ sh) (hs1 : sh ≤ 2147483647) (w : World) (hL : LaidN w) (hA : ActsAt w p L) :
    Calls Tryz.prog 4 #[.string (bs l), .slice p L.length cap, .int .i32 sh] w fun e w' => e = .returned (.bool true) ∧ Mod NoB w w' := by
  have hal := hide (fun wx (hm : Mod NoB w wx) => alive_any wx (hL.mod hm))
  have hgr := hide (fun wx (hm : Mod NoB w wx) => great_any p cap L hLl wx (hA.mod hm))
  have hnw := hide (fun wx (hm : Mod NoB w wx) => new_any l hl 0 0 wx (hL.mod hm))
  have hnm := hide (fun wx (hm : Mod NoB w wx) => new_any l hl 0 (sh * 1000000000) wx (hL.mod hm))
  obtain ⟨n, hn⟩ : ∃ n, L.length = n := ⟨_, rfl⟩
  rw [hn] at hgr hLl ⊢
  replace hL := hide hL
  replace hA := hide hA
  replace hn := hide hn
  go_enter Tryz.func4, Tryz.ntmps4
  have hm1 : Hid (Mod NoB w w) := hide (Mod.refl _ _)
  by_cases h2l : 2000 < l.length
  · clear hgr hnw hnm
    go_wp2_with fail
    refine (hal.out _ hm1.out).mono ?_
    rintro e w8 ⟨rfl, hm8⟩
    replace hm1 := hide (hm1.out.trans hm8)
    clear hm8
    go_wp2_with fail
    go_ret
    exact ⟨rfl, hm1.out⟩
  go_wp2_with fail
  refine (hgr.out _ hm1.out).mono ?_
  rintro e w2 ⟨g, rfl, hg, hm2⟩
  replace hm1 := hide (hm1.out.trans hm2)
  clear hm2 hgr
  rcases hg with rfl | ⟨rfl, hn80⟩
  · clear hnw hnm
    go_wp2_with fail
    refine (hal.out _ hm1.out).mono ?_
    rintro e w8 ⟨rfl, hm8⟩
    replace hm1 := hide (hm1.out.trans hm8)
    clear hm8
    go_wp2_with fail
    go_ret
    exact ⟨rfl, hm1.out⟩
  replace hn80 := hide hn80
  go_wp2_with fail
  refine (hnw.out _ hm1.out).mono ?_
  rintro e w3 hp3
  have hm3 := hide (hm1.out.trans hp3.1)
  have hc1 : IntKind.i64.wrap sh = sh := wrap_in ⟨by omega, by omega⟩
  have hc2 : IntKind.i64.wrap (sh * 1000000000) = sh * 1000000000 := wrap_in ⟨by omega, by omega⟩
  rcases hno : newOut l 0 0 with ⟨ln, er⟩ | c
  · obtain ⟨rfl, hm3'⟩ := new_none hp3 hno
    clear hp3 hm3'
    replace hno := hide hno
    go_wp2_with fail
    refine (hnm.out _ hm3.out).mono ?_
    rintro e w4 hp4
    obtain ⟨rfl, hm4⟩ := new_none hp4 ((newOut_by hs0 hs1 l).trans hno.out)
    replace hm3 := hide (hm3.out.trans hm4)
    clear hp4 hm4 hnw hnm hc1 hc2
    have hne := newOut_no hno.out
    have heb : (er != 0) = true := by simpa using hne
    replace hne := hide hne
    go_wp2_with fail
    refine (hal.out _ hm3.out).mono ?_
    rintro e w8 ⟨rfl, hm8⟩
    replace hm3 := hide (hm3.out.trans hm8)
    clear hm8
    go_wp2_with fail
    go_ret
    exact ⟨by simp, hm3.out⟩
  · obtain ⟨P, rfl, ho3⟩ := One.new hp3 hno
    clear hp3
    have hck := (newOut_yes hno).2.2.1
    have hne0 := (newOut_yes hno).2.2.2
    replace hck := hide hck
    replace hne0 := hide hne0
    replace hno := hide hno
    replace ho3 := hide ho3
    go_wp2_with fail
    refine (hnm.out _ hm3.out).mono ?_
    rintro e w4 hp4
    obtain ⟨P', rfl, ht4⟩ := Two.new ho3.out hp4 ((newOut_by hs0 hs1 l).trans hno.out)
    replace hm3 := hide (hm3.out.trans hp4.1)
    clear hp4 ho3 hnw hnm
    replace ht4 := hide ht4
    replace hs0 := hide hs0
    replace hs1 := hide hs1
    go_wp2_with fail
    have hb0 := ht4.out.left.b
    have hb0' := ht4.out.right.b
    go_loopw [69, 13] (fun s69 s13 wr => ∃ (k dr : Nat) (Q Q' : DPl) (d m : DaemonS), s69 = .int .i64 k ∧ s13 = .int .u64 dr ∧ k ≤ n ∧ dr < 18446744073709551616 ∧ Q.b = P.b ∧ Q'.b = P'.b ∧ d.Ok ∧ d.Cnt k ∧ m.Ok ∧ m.Cnt k ∧ Shifted sh d m ∧ Two w2 Q Q' d m wr) (fun s69 _ wr => n - (match s69 with | .int _ i => i.toNat | _ => 0))
    case atStart => exact ⟨0, 0, P, P', newS c 0 0, newS c 0 (sh * 1000000000), rfl, rfl, Nat.zero_le _, by decide, rfl, rfl, (newS_ok hck.out hne0.out).1, (newS_ok hck.out hne0.out).2, (newS_ok hck.out (newErr_by hs0.out hs1.out)).1, (newS_ok hck.out (newErr_by hs0.out hs1.out)).2, newS_apart c 0 sh, ht4.out⟩
    case round =>
      obtain ⟨k, dr, Q, Q', d, m, rfl, rfl, hk, hdr, hq, hq', hok, hcn, hokm, hcnm, hsh, ht⟩ := hrel
      replace hq := hide hq
      replace hq' := hide hq'
      replace hok := hide hok
      replace hcn := hide hcn
      replace hokm := hide hokm
      replace hcnm := hide hcnm
      replace hsh := hide hsh
      replace hdr := hide hdr
      by_cases hkn : k < n
      · clear hm3
        obtain ⟨x, hx⟩ : ∃ x, L[k]? = some x := ⟨L[k]'(by rw [hn.out]; exact hkn), List.getElem?_eq_getElem (by rw [hn.out]; exact hkn)⟩
        obtain ⟨g, off, rfl, hglt, hat⟩ := hA.out k x hx
        obtain ⟨⟨dp, dc, c0, c1, c2, c3, c4, c5, hda, hdl⟩, ik, ih, ia, id'⟩ := hat
        have hmr := hm1.out.trans ht.old
        replace c0 := hmr.cellAt id c0
        replace c1 := hmr.cellAt id c1
        replace c2 := hmr.cellAt id c2
        replace c3 := hmr.cellAt id c3
        replace c4 := hmr.cellAt id c4
        replace c5 := hmr.cellAt id c5
        replace hda := hda.mod hmr
        replace hglt := Nat.lt_of_lt_of_le hglt hmr.size
        replace hdl : ∀ bd off, dp = some ⟨bd, off, none⟩ → 0 < x.e.data.length → bd < w2.heap.size := fun bd off a b => Nat.lt_of_lt_of_le (hdl bd off a b) hm1.out.size
        replace hdl := hide hdl
        clear hmr
        replace ht := hide ht
        replace hda := hide hda
        replace hx := hide hx
        have hki : (k : Int) < n := by omega
        go_upto_region 11 with (fail)
        have hw5 := heap_alloc_new wr (.cells #[.int .i64 x.e.kind, .int .i64 x.e.h, .int .i64 x.e.addr, .int .u64 (x.e.draw : Int), .slice dp x.e.data.length dc, .bool x.good] 35)
        have hq5 : Mod NoB wr (wr.alloc (.cells #[.int .i64 x.e.kind, .int .i64 x.e.h, .int .i64 x.e.addr, .int .u64 (x.e.draw : Int), .slice dp x.e.data.length dc, .bool x.good] 35)) := (Mod.refl _ _).alloc _
        generalize wr.alloc (.cells #[.int .i64 x.e.kind, .int .i64 x.e.h, .int .i64 x.e.addr, .int .u64 (x.e.draw : Int), .slice dp x.e.data.length dc, .bool x.good] 35) = w5 at *
        replace hda := hide (hda.out.mod hq5)
        replace ht := hide (ht.out.quiet hq5)
        clear hq5 c0 c1 c2 c3 c4 c5
        have c0 := cell_of_block hw5 0 (v := .int .i64 x.e.kind) rfl
        have c1 := cell_of_block hw5 1 (v := .int .i64 x.e.h) rfl
        have c2 := cell_of_block hw5 2 (v := .int .i64 x.e.addr) rfl
        have c3 := cell_of_block hw5 3 (v := .int .u64 (x.e.draw : Int)) rfl
        have c4 := cell_of_block hw5 4 (v := .slice dp x.e.data.length dc) rfl
        have c5 := cell_of_block hw5 5 (v := .bool x.good) rfl
        replace hw5 := hide hw5
        have hev := hide (event_any x dp dc dr hdr.out id' w5 hda.out)
        go_wp2_with fail
        refine hev.out.mono ?_
        rintro e w6 ⟨dp', dc', rfl, hda6, hap6, hm6⟩
        have hwA := hide (hm6.heap hw5.out id)
        clear hev c0 c1 c2 c3 c4 c5 hw5
        obtain ⟨z, hz⟩ : ∃ z, evOf x dr = z := ⟨_, rfl⟩
        rw [hz] at hda6 hap6 ⊢
        have hap := hide (ev_apart (w := w5) (l' := z.data) (dp' := dp') ht.out.left (dp := dp) (l := x.e.data) hdl.out hap6)
        have hap' := hide (ev_apart (w := w5) (l' := z.data) (dp' := dp') ht.out.right (dp := dp) (l := x.e.data) hdl.out hap6)
        replace ht := hide (ht.out.quiet hm6)
        replace hda6 := hide hda6
        obtain ⟨iz1, iz2, iz3, iz4⟩ := evOf_in ik ih ia id' dr
        rw [hz] at iz1 iz2 iz3 iz4
        replace hz := hide hz
        clear hm6 hap6 hda
        go_upto_region 12 with (fail)
        have hEn : ¬ fpD Q w6.heap.size := fun x => Nat.lt_irrefl _ (ht.out.d.lt _ x)
        have hEm : ¬ fpD Q' w6.heap.size := fun x => Nat.lt_irrefl _ (ht.out.m.lt _ x)
        have hw7 := heap_alloc_new w6 (.cells #[.int .i64 z.kind, .int .i64 z.h, .int .i64 z.addr, .int .u64 (z.draw : Int), .slice dp' z.data.length dc'] 33)
        have hq7 : Mod NoB w6 (w6.alloc (.cells #[.int .i64 z.kind, .int .i64 z.h, .int .i64 z.addr, .int .u64 (z.draw : Int), .slice dp' z.data.length dc'] 33)) := (Mod.refl _ _).alloc _
        generalize w6.alloc (.cells #[.int .i64 z.kind, .int .i64 z.h, .int .i64 z.addr, .int .u64 (z.draw : Int), .slice dp' z.data.length dc'] 33) = w7 at *
        replace hda6 := hide (hda6.out.mod hq7)
        replace ht := hide (ht.out.quiet hq7)
        replace hwA := hide (hq7.heap hwA.out id)
        obtain ⟨bE, hbE⟩ : ∃ bE, w6.heap.size = bE := ⟨_, rfl⟩
        rw [hbE] at hw7 hEn hEm ⊢
        replace hEn := hide hEn
        replace hEm := hide hEm
        clear hq7
        replace hw7 := hide hw7
        replace hbE := hide hbE
        have x0 := cell_of_block hw7.out 0 (v := .int .i64 z.kind) rfl
        have x1 := cell_of_block hw7.out 1 (v := .int .i64 z.h) rfl
        have x2 := cell_of_block hw7.out 2 (v := .int .i64 z.addr) rfl
        have x3 := cell_of_block hw7.out 3 (v := .int .u64 (z.draw : Int)) rfl
        have x4 := cell_of_block hw7.out 4 (v := .slice dp' z.data.length dc') rfl
        have hN8 : (k : Int) ≤ 9007199254740992 := by have := hn80.out; omega
        go_upto_region 13 with (fail)
        have hwy := heap_alloc_new w7 (.cells #[.int .i64 z.kind, .int .i64 z.h, .int .i64 z.addr, .int .u64 (z.draw : Int), .slice dp' z.data.length dc'] 33)
        have hqy : Mod NoB w7 (w7.alloc (.cells #[.int .i64 z.kind, .int .i64 z.h, .int .i64 z.addr, .int .u64 (z.draw : Int), .slice dp' z.data.length dc'] 33)) := (Mod.refl _ _).alloc _
        generalize w7.alloc (.cells #[.int .i64 z.kind, .int .i64 z.h, .int .i64 z.addr, .int .u64 (z.draw : Int), .slice dp' z.data.length dc'] 33) = wy at *
        obtain ⟨bY, hbY⟩ : ∃ bY, w7.heap.size = bY := ⟨_, rfl⟩
        rw [hbY] at hwy ⊢
        have hEY : bE ≠ bY := by have := lt_of_block hw7.out; omega
        have hnYn : ¬ fpD Q bY := fun x => by have := ht.out.d.lt _ x; omega
        have hnYm : ¬ fpD Q' bY := fun x => by have := ht.out.m.lt _ x; omega
        have hbY7 : w2.heap.size ≤ bY := by have := ht.out.old.size; omega
        have hbYd : ∀ bd off, dp' = some ⟨bd, off, none⟩ → 0 < z.data.length → bd ≠ bY := fun bd off e h0 => by have := hda6.out.lt bd off e h0; omega
        replace hbYd := hide hbYd
        replace hbY7 := hide hbY7
        replace hbY := hide hbY
        replace hnYn := hide hnYn
        replace hnYm := hide hnYm
        replace hwy := hide hwy
        replace hda6 := hide (hda6.out.mod hqy)
        replace ht := hide (ht.out.quiet hqy)
        replace hwA := hqy.heap hwA.out id
        replace hw7 := hide (hqy.heap hw7.out id)
        clear hqy x0 x1 x2 x3 x4
        have c3 := cell_of_block hwA 3 (v := .int .u64 (x.e.draw : Int)) rfl
        have c5 := cell_of_block hwA 5 (v := .bool x.good) rfl
        replace hwA := hide hwA
        cases hg : x.good with
        | true =>
         as_aux_lemma =>
          rw [hg] at c5
          have hzE : z = ⟨1, x.e.h, x.e.addr, 0, (goodP dr x.e.draw x.e.draw).bytes⟩ := by
            rw [← hz.out]
            unfold evOf
            rw [hg]
            rfl
          replace hg := hide hg
          replace hzE := hide hzE
          have hstm := stamp_by sh x.e.draw
          have hsl := shiftN_lt sh x.e.draw
          obtain ⟨sN, hsN⟩ : ∃ sN, shiftN sh x.e.draw = sN := ⟨_, rfl⟩
          rw [hsN] at hstm hsl
          replace hsN := hide hsN
          go_upto_region 15 with (fail)
          clear hstm c5
          by_cases hs : sN = 0
          · subst hs
            go_wp2_with fail
            go_roundw
            case rel => exact ⟨k + 1, dr, Q, Q', d, m, rfl, rfl, hkn, hdr.out, hq.out, hq'.out, hok.out, hcn.out.mono (by omega), hokm.out, hcnm.out.mono (by omega), hsh.out, ht.out⟩
            case measure =>
              show n - ((k : Int) + 1).toNat < n - (k : Int).toNat
              omega
          · have hsb : ((sN : Int) == 0) = false := by simpa using hs
            by_cases ha0 : x.e.draw = 0
            · have hab : ((x.e.draw : Int) == 0) = true := by simp [ha0]
              go_wp2_with fail
              go_roundw
              case rel => exact ⟨k + 1, dr, Q, Q', d, m, rfl, rfl, hkn, hdr.out, hq.out, hq'.out, hok.out, hcn.out.mono (by omega), hokm.out, hcnm.out.mono (by omega), hsh.out, ht.out⟩
              case measure =>
                show n - ((k : Int) + 1).toNat < n - (k : Int).toNat
                omega
            · have hab : ((x.e.draw : Int) == 0) = false := by simpa using ha0
              replace hs := hide hs
              replace ha0 := hide ha0
              have hgd := hide (fun wx => sgood_any dr sN sN hdr.out hsl hsl wx)
              have hlt := hide (good_lt dr sN sN)
              have hlen := hide (good_len dr sN sN)
              obtain ⟨z2, hz2⟩ : ∃ z2 : EvS, (⟨1, z.h, z.addr, 0, (goodP dr sN sN).bytes⟩ : EvS) = z2 := ⟨_, rfl⟩
              have hrel2 : Hid _ := hide (hsh.out.do (e := z) (e' := z2) (by rw [← hz2, hzE.out]) (by rw [← hz2]) (by rw [← hz2]) (by rw [← hz2, hzE.out]) (fun _ => by
                rw [← hz2, hzE.out]
                have := good_apart sh (draw := dr) hdr.out id' ha0.out (by rw [hsN.out]; exact hs.out)
                rw [hsN.out] at this
                exact this))
              obtain ⟨iy1, iy2, iy4⟩ : I64 z2.kind ∧ I64 z2.h ∧ z2.draw < 18446744073709551616 := by
                rw [← hz2]
                exact ⟨⟨by simp, by simp⟩, iz2, by simp⟩
              replace hz2 := hide hz2
              have x1 := cell_of_block hw7.out 1 (v := .int .i64 z.h) rfl
              have x2 := cell_of_block hw7.out 2 (v := .int .i64 z.addr) rfl
              have hnE6 : bE ≠ bY := hEY
              have hbY9 : Hid (bY < wy.heap.size) := hide (lt_of_block hwy.out)
              generalize hQ : (goodP dr sN sN).bytes = qb at *
              replace hQ := hide hQ
              go_upto_region 16 with (fail)
              go_region_held3 (fun w' => w'.cell? ⟨bE, 1, none⟩ = some (.int .i64 z.h) ∧ w'.cell? ⟨bE, 2, none⟩ = some (.int .i64 z.addr))
                (first | with_reducible exact ⟨x1, x2⟩ | with_reducible exact ⟨hma.out.cellAt id x1, hma.out.cellAt id x2⟩ | with_reducible exact ⟨cell5_far hnE6 (hma.out.cellAt id x1), cell5_far hnE6 (hma.out.cellAt id x2)⟩ | go_keep)
                ((go_at_call 22; (with_reducible refine (hgd.out wy.drew).mono ?_); rintro e wa ⟨v, rfl, hown, hma⟩; obtain ⟨gG, cG, hv, hgb, hc1', hc2', hby⟩ := own_data hown hlt.out (by have := hlen.out; omega); subst hv; replace hma := hide ((Mod.refl NoB wy).drew.trans hma); have hBa := hma.out.heap hwy.out id; have b0 := cell_of_block hBa 0 (v := .int .i64 z.kind) rfl; have b1 := cell_of_block hBa 1 (v := .int .i64 z.h) rfl; have b2 := cell_of_block hBa 2 (v := .int .i64 z.addr) rfl; have b3 := cell_of_block hBa 3 (v := .int .u64 (z.draw : Int)) rfl; have b4 := cell_of_block hBa 4 (v := .slice dp' z.data.length dc') rfl; have f0 := frozen_of_block hBa 0; have f1 := frozen_of_block hBa 1; have f2 := frozen_of_block hBa 2; have f3 := frozen_of_block hBa 3; have f4 := frozen_of_block hBa 4; replace hBa := hide hBa; replace hown := hide hown; replace hby := hide hby))
              have hs := heap_setCell_eq (heap_setCell_eq (heap_setCell_eq (heap_setCell_eq (heap_setCell_eq hBa.out (o := 0) (.int .i64 1)) (o := 1) (.int .i64 z.h)) (o := 2) (.int .i64 z.addr)) (o := 3) (.int .u64 0)) (o := 4) (.slice (some ⟨gG, 0, none⟩) qb.length cG)
              have hms := set5_mod wa bY (.int .i64 1) (.int .i64 z.h) (.int .i64 z.addr) (.int .u64 0) (.slice (some ⟨gG, 0, none⟩) qb.length cG)
              clear x1 x2 b0 b1 b2 b3 b4 f0 f1 f2 f3 f4 hgd
              generalize ((((wa.setCell ⟨bY, 0, none⟩ (.int .i64 1)).setCell ⟨bY, 1, none⟩ (.int .i64 z.h)).setCell ⟨bY, 2, none⟩ (.int .i64 z.addr)).setCell ⟨bY, 3, none⟩ (.int .u64 0)).setCell ⟨bY, 4, none⟩ (.slice (some ⟨gG, 0, none⟩) qb.length cG) = wN at *
              have hqz := hide (show z2.data = qb by rw [← hz2.out])
              replace hwy := hide (show wN.heap[bY]? = some (.cells #[.int .i64 z2.kind, .int .i64 z2.h, .int .i64 z2.addr, .int .u64 (z2.draw : Int), .slice (some ⟨gG, 0, none⟩) z2.data.length cG] 33 (0, 0)) by
                rw [hqz.out, ← hz2.out]
                simpa using hs)
              have hgwy : wy.heap.size ≤ gG := hgb
              have hgY : gG ≠ bY := by have h3 := hbY9.out; omega
              have hdaY := hide (show DataAt wN (.slice (some ⟨gG, 0, none⟩) z2.data.length cG) z2.data by
                rw [hqz.out]
                exact ⟨_, cG, rfl, by have := hlen.out; omega, fun _ => ⟨gG, 0, rfl, hc1', hc2', hby.out.mod hms hgY⟩⟩)
              have hapY := hide (show ∀ bd off, (some ⟨gG, 0, none⟩ : Option Addr) = some ⟨bd, off, none⟩ → 0 < z2.data.length → ¬ fpD Q' bd from fun bd off e _ hf => by
                cases e
                have := ht.out.m.lt _ hf
                omega)
              have hapYn := hide (show ∀ bd off, (some ⟨gG, 0, none⟩ : Option Addr) = some ⟨bd, off, none⟩ → 0 < z2.data.length → ¬ fpD Q bd from fun bd off e _ hf => by
                cases e
                have := ht.out.d.lt _ hf
                omega)
              replace hda6 := hide (DataAt.modS (hda6.out.mod hma.out) hms (fun bd off n c e h0 hk => by
                obtain ⟨rfl, _⟩ := Value.slice.inj e
                exact hbYd.out bd off rfl h0 hk))
              replace ht := hide ((ht.out.quiet hma.out).put hms (fun k e => by subst e; exact hnYn.out) (fun k e => by subst e; exact hnYm.out) (fun k e => by subst e; exact hbY7.out))
              replace hw7 := hide (hms.heap (hma.out.heap hw7.out id) hnE6)
              clear hs hms hBa hma hown hby hgwy hgY hgb
              replace hc1 := hide hc1
              replace hc2 := hide hc2
              have x0 := cell_of_block hw7.out 0 (v := .int .i64 z.kind) rfl
              have x1 := cell_of_block hw7.out 1 (v := .int .i64 z.h) rfl
              have x2 := cell_of_block hw7.out 2 (v := .int .i64 z.addr) rfl
              have x3 := cell_of_block hw7.out 3 (v := .int .u64 (z.draw : Int)) rfl
              have x4 := cell_of_block hw7.out 4 (v := .slice dp' z.data.length dc') rfl
              have hdo := do_z (P := Q) hok.out hcn.out hN8 iz1 iz2 iz4 dp' dc' ht.out.d hda6.out hap.out
              have hdo2 := hide (fun wx (hx : DO wx Q' m) (hy : DataAt wx (.slice (some ⟨gG, 0, none⟩) z2.data.length cG) z2.data) => apart_do hrel2.out (do_z (P := Q') hokm.out hcnm.out hN8 iy1 iy2 iy4 (some ⟨gG, 0, none⟩) cG hx hy hapY.out))
              obtain ⟨hok2, hcn2⟩ := hok.out.do (e := z) iz4 hcn.out hN8
              obtain ⟨hokm2, hcnm2⟩ := hokm.out.do (e := z2) iy4 hcnm.out hN8
              obtain ⟨hre, hsh2, hrs, hrw, hrr, hrc⟩ := hrel2.out
              have hcr : errS d z = 0 → IntKind.i64.wrap ((doS m z2).2.clock - (doS d z).2.clock) = sh * 1000000000 := fun h0 => by
                rw [hrc h0, show (doS d z).2.clock + sh * 1000000000 - (doS d z).2.clock = sh * 1000000000 by omega]
                exact hc2.out
              obtain ⟨er, her⟩ : ∃ er, errS d z = er := ⟨_, rfl⟩
              obtain ⟨d', hd'⟩ : ∃ d', (doS d z).1 = d' := ⟨_, rfl⟩
              obtain ⟨m', hm'⟩ : ∃ m', (doS m z2).1 = m' := ⟨_, rfl⟩
              obtain ⟨O, hO⟩ : ∃ O, (doS d z).2 = O := ⟨_, rfl⟩
              obtain ⟨cm, hcm⟩ : ∃ cm, (doS m z2).2.clock = cm := ⟨_, rfl⟩
              rw [her, hd', hO, hq.out] at hdo
              rw [her, hm', hO, hcm, hq'.out] at hdo2
              rw [her, hO, hcm] at hcr
              rw [hd'] at hok2 hcn2 hsh2
              rw [hm'] at hokm2 hcnm2 hsh2
              clear hre hrs hrw hrr hrc hrel2
              replace her := hide her
              replace hd' := hide hd'
              replace hm' := hide hm'
              replace hO := hide hO
              replace hcm := hide hcm
              replace hcr := hide hcr
              replace hdo := hide hdo
              replace hok2 := hide hok2
              replace hcn2 := hide hcn2
              replace hokm2 := hide hokm2
              replace hcnm2 := hide hcnm2
              replace hsh2 := hide hsh2
              go_wp2_with fail
              refine hdo.out.mono ?_
              rintro _ wb ⟨v, Q2, rfl, hd2, hto2, hs2⟩
              obtain ⟨p9, c9, hv9⟩ := hs2.slice
              subst hv9
              have hb2 : Q2.b = P.b := hto2.b.trans hq.out
              have ht2 := ht.out.stepL hd2 hto2
              have hdaY2 := (hto2.data hdaY.out hapYn.out).1
              have hw7b := (hto2.block hw7.out hEn.out).1
              have hwyb := (hto2.block hwy.out hnYn.out).1
              clear hdo x0 x1 x2 x3 x4 ht hd2 hto2 hw7 hda6 hdaY hwy hs2
              go_upto_region 19 with (fail)
              have hwo := heap_alloc_new wb (.cells #[.slice p9 O.sends.length c9, .int .i64 O.clock, .int .i64 O.wake, .int .i64 O.reason] 39)
              have hqo : Mod NoB wb (wb.alloc (.cells #[.slice p9 O.sends.length c9, .int .i64 O.clock, .int .i64 O.wake, .int .i64 O.reason] 39)) := (Mod.refl _ _).alloc _
              generalize wb.alloc (.cells #[.slice p9 O.sends.length c9, .int .i64 O.clock, .int .i64 O.wake, .int .i64 O.reason] 39) = wo at *
              obtain ⟨bo, hbo⟩ : ∃ bo, wb.heap.size = bo := ⟨_, rfl⟩
              rw [hbo] at hwo ⊢
              have hno : ¬ fpD Q' bo := fun x => by have := ht2.m.lt _ x; omega
              replace ht2 := ht2.quiet hqo
              replace hdaY2 := hdaY2.mod hqo
              replace hw7b := hqo.heap hw7b id
              replace hwyb := hqo.heap hwyb id
              have hdo3 := hdo2.out wo ht2.m hdaY2
              have x0 := cell_of_block hwyb 0 (v := .int .i64 z2.kind) rfl
              have x1 := cell_of_block hwyb 1 (v := .int .i64 z2.h) rfl
              have x2 := cell_of_block hwyb 2 (v := .int .i64 z2.addr) rfl
              have x3 := cell_of_block hwyb 3 (v := .int .u64 (z2.draw : Int)) rfl
              have x4 := cell_of_block hwyb 4 (v := .slice (some ⟨gG, 0, none⟩) z2.data.length cG) rfl
              replace hdo3 := hide hdo3
              replace ht2 := hide ht2
              replace hw7b := hide hw7b
              replace hwo := hide hwo
              replace hno := hide hno
              replace hbo := hide hbo
              clear hqo hdo2 hdaY2 hwyb
              go_wp2_with fail
              refine hdo3.out.mono ?_
              rintro _ wd ⟨v, Q3, rfl, hd3, hto3, hs3⟩
              obtain ⟨p8, c8, hv8⟩ := hs3.slice
              subst hv8
              have ht3 := ht2.out.stepR hd3 hto3
              have hb3 : Q3.b = P'.b := hto3.b.trans hq'.out
              have hwo3 := (hto3.block hwo.out hno.out).1
              have hw7d := (hto3.block hw7b.out hEm.out).1
              clear hdo3 x0 x1 x2 x3 x4 ht2 hd3 hw7b hwo hto3 hs3
              go_upto_region 20 with (fail)
              have hwp := heap_alloc_new wd (.cells #[.slice p8 O.sends.length c8, .int .i64 cm, .int .i64 O.wake, .int .i64 O.reason] 39)
              have hqp : Mod NoB wd (wd.alloc (.cells #[.slice p8 O.sends.length c8, .int .i64 cm, .int .i64 O.wake, .int .i64 O.reason] 39)) := (Mod.refl _ _).alloc _
              generalize wd.alloc (.cells #[.slice p8 O.sends.length c8, .int .i64 cm, .int .i64 O.wake, .int .i64 O.reason] 39) = we at *
              replace ht3 := ht3.quiet hqp
              replace hwo3 := hqp.heap hwo3 id
              replace hw7d := hqp.heap hw7d id
              have y0 := cell_of_block hwo3 0 (v := .slice p9 O.sends.length c9) rfl
              have y1 := cell_of_block hwo3 1 (v := .int .i64 O.clock) rfl
              have y2 := cell_of_block hwo3 2 (v := .int .i64 O.wake) rfl
              have y3 := cell_of_block hwo3 3 (v := .int .i64 O.reason) rfl
              have z0 := cell_of_block hwp 0 (v := .slice p8 O.sends.length c8) rfl
              have z1 := cell_of_block hwp 1 (v := .int .i64 cm) rfl
              have z2' := cell_of_block hwp 2 (v := .int .i64 O.wake) rfl
              have z3 := cell_of_block hwp 3 (v := .int .i64 O.reason) rfl
              have x0 := cell_of_block hw7d 0 (v := .int .i64 z.kind) rfl
              have x3 := cell_of_block hw7d 3 (v := .int .u64 (z.draw : Int)) rfl
              replace ht3 := hide ht3
              replace hw7d := hide hw7d
              replace hwo3 := hide hwo3
              replace hwp := hide hwp
              clear hqp
              go_cut [129] (fun s129 wx => ∃ b : Bool, s129 = .bool b ∧ wx = we)
              case first =>
                by_cases h0 : er = 0
                · subst h0
                  by_cases hk0 : z.kind = 0
                  · by_cases hd0 : z.draw = 0
                    · have hb0 : ((z.draw : Int) != 0) = false := by simp [hd0]
                      go_wp2_with fail
                      go_meet
                      exact ⟨_, rfl, rfl⟩
                    · have hb0 : ((z.draw : Int) != 0) = true := by simpa using hd0
                      go_wp2_with fail
                      go_meet
                      exact ⟨_, rfl, rfl⟩
                  · have hb0 : (z.kind == 0) = false := by simpa using hk0
                    go_wp2_with fail
                    go_meet
                    exact ⟨_, rfl, rfl⟩
                · have hb0 : (er == 0) = false := by simpa using h0
                  go_wp2_with fail
                  go_meet
                  exact ⟨_, rfl, rfl⟩
              case rest =>
                obtain ⟨b, rfl, rfl⟩ := hcut
                go_upto_if 129 with (fail)
                go_cut [13] (fun s13 wx => ∃ dr2 : Nat, s13 = .int .u64 dr2 ∧ dr2 < 18446744073709551616 ∧ wx = wc)
                case first =>
                  cases b with
                  | true =>
                    go_wp2_with fail
                    go_meet
                    exact ⟨z.draw, rfl, iz4, rfl⟩
                  | false =>
                    go_wp2_with fail
                    go_meet
                    exact ⟨dr, rfl, hdr.out, rfl⟩
                case rest =>
                  obtain ⟨dr2, rfl, hdr2, rfl⟩ := hcut
                  replace hdr2 := hide hdr2
                  by_cases h0 : er = 0
                  · subst h0
                    have hc3 := hcr.out rfl
                    have hc4 := hc1.out
                    have hc5 := hc2.out
                    go_wp2_with fail
                    go_roundw
                    case rel => exact ⟨k + 1, dr2, Q2, Q3, d', m', rfl, rfl, hkn, hdr2.out, hb2, hb3, hok2.out, hcn2.out, hokm2.out, hcnm2.out, hsh2.out, ht3.out⟩
                    case measure =>
                      show n - ((k : Int) + 1).toNat < n - (k : Int).toNat
                      omega
                  · have hb0 : (er == 0) = false := by simpa using h0
                    go_wp2_with fail
                    go_roundw
                    case rel => exact ⟨k + 1, dr2, Q2, Q3, d', m', rfl, rfl, hkn, hdr2.out, hb2, hb3, hok2.out, hcn2.out, hokm2.out, hcnm2.out, hsh2.out, ht3.out⟩
                    case measure =>
                      show n - ((k : Int) + 1).toNat < n - (k : Int).toNat
                      omega
        | false =>
         as_aux_lemma =>
          rw [hg] at c5
          replace hg := hide hg
          by_cases hk1 : z.kind = 1
          · have hkb : (z.kind == 1) = true := by simpa using hk1
            have x0 := cell_of_block hw7.out 0 (v := .int .i64 z.kind) rfl
            go_wp2_with fail
            go_roundw
            case rel => exact ⟨k + 1, dr, Q, Q', d, m, rfl, rfl, hkn, hdr.out, hq.out, hq'.out, hok.out, hcn.out.mono (by omega), hokm.out, hcnm.out.mono (by omega), hsh.out, ht.out⟩
            case measure =>
              show n - ((k : Int) + 1).toNat < n - (k : Int).toNat
              omega
          · have hkb : (z.kind == 1) = false := by simpa using hk1
            have hrel2 := hide (hsh.out.do (e := z) (e' := z) rfl rfl rfl rfl (apart_same sh hk1))
            replace hk1 := hide hk1
            have hdaY := hda6
            have hapY := hap'
            have hapYn := hap
            have iy1 := iz1
            have iy2 := iz2
            have iy4 := iz4
            have x0 := cell_of_block hw7.out 0 (v := .int .i64 z.kind) rfl
            go_upto_region 18 with (fail)
            clear x0 c3 c5
            replace hc1 := hide hc1
            replace hc2 := hide hc2
            have x0 := cell_of_block hw7.out 0 (v := .int .i64 z.kind) rfl
            have x1 := cell_of_block hw7.out 1 (v := .int .i64 z.h) rfl
            have x2 := cell_of_block hw7.out 2 (v := .int .i64 z.addr) rfl
            have x3 := cell_of_block hw7.out 3 (v := .int .u64 (z.draw : Int)) rfl
            have x4 := cell_of_block hw7.out 4 (v := .slice dp' z.data.length dc') rfl
            have hdo := do_z (P := Q) hok.out hcn.out hN8 iz1 iz2 iz4 dp' dc' ht.out.d hda6.out hap.out
            have hdo2 := hide (fun wx (hx : DO wx Q' m) (hy : DataAt wx (.slice dp' z.data.length dc') z.data) => apart_do hrel2.out (do_z (P := Q') hokm.out hcnm.out hN8 iy1 iy2 iy4 dp' dc' hx hy hapY.out))
            obtain ⟨hok2, hcn2⟩ := hok.out.do (e := z) iz4 hcn.out hN8
            obtain ⟨hokm2, hcnm2⟩ := hokm.out.do (e := z) iy4 hcnm.out hN8
            obtain ⟨hre, hsh2, hrs, hrw, hrr, hrc⟩ := hrel2.out
            have hcr : errS d z = 0 → IntKind.i64.wrap ((doS m z).2.clock - (doS d z).2.clock) = sh * 1000000000 := fun h0 => by
              rw [hrc h0, show (doS d z).2.clock + sh * 1000000000 - (doS d z).2.clock = sh * 1000000000 by omega]
              exact hc2.out
            obtain ⟨er, her⟩ : ∃ er, errS d z = er := ⟨_, rfl⟩
            obtain ⟨d', hd'⟩ : ∃ d', (doS d z).1 = d' := ⟨_, rfl⟩
            obtain ⟨m', hm'⟩ : ∃ m', (doS m z).1 = m' := ⟨_, rfl⟩
            obtain ⟨O, hO⟩ : ∃ O, (doS d z).2 = O := ⟨_, rfl⟩
            obtain ⟨cm, hcm⟩ : ∃ cm, (doS m z).2.clock = cm := ⟨_, rfl⟩
            rw [her, hd', hO, hq.out] at hdo
            rw [her, hm', hO, hcm, hq'.out] at hdo2
            rw [her, hO, hcm] at hcr
            rw [hd'] at hok2 hcn2 hsh2
            rw [hm'] at hokm2 hcnm2 hsh2
            clear hre hrs hrw hrr hrc hrel2
            replace her := hide her
            replace hd' := hide hd'
            replace hm' := hide hm'
            replace hO := hide hO
            replace hcm := hide hcm
            replace hcr := hide hcr
            replace hdo := hide hdo
            replace hok2 := hide hok2
            replace hcn2 := hide hcn2
            replace hokm2 := hide hokm2
            replace hcnm2 := hide hcnm2
            replace hsh2 := hide hsh2
            go_wp2_with fail
            refine hdo.out.mono ?_
            rintro _ wb ⟨v, Q2, rfl, hd2, hto2, hs2⟩
            obtain ⟨p9, c9, hv9⟩ := hs2.slice
            subst hv9
            have hb2 : Q2.b = P.b := hto2.b.trans hq.out
            have ht2 := ht.out.stepL hd2 hto2
            have hdaY2 := (hto2.data hdaY.out hapYn.out).1
            have hw7b := (hto2.block hw7.out hEn.out).1
            have hwyb := (hto2.block hwy.out hnYn.out).1
            clear hdo x0 x1 x2 x3 x4 ht hd2 hto2 hw7 hda6 hdaY hwy hs2
            go_upto_region 19 with (fail)
            have hwo := heap_alloc_new wb (.cells #[.slice p9 O.sends.length c9, .int .i64 O.clock, .int .i64 O.wake, .int .i64 O.reason] 39)
            have hqo : Mod NoB wb (wb.alloc (.cells #[.slice p9 O.sends.length c9, .int .i64 O.clock, .int .i64 O.wake, .int .i64 O.reason] 39)) := (Mod.refl _ _).alloc _
            generalize wb.alloc (.cells #[.slice p9 O.sends.length c9, .int .i64 O.clock, .int .i64 O.wake, .int .i64 O.reason] 39) = wo at *
            obtain ⟨bo, hbo⟩ : ∃ bo, wb.heap.size = bo := ⟨_, rfl⟩
            rw [hbo] at hwo ⊢
            have hno : ¬ fpD Q' bo := fun x => by have := ht2.m.lt _ x; omega
            replace ht2 := ht2.quiet hqo
            replace hdaY2 := hdaY2.mod hqo
            replace hw7b := hqo.heap hw7b id
            replace hwyb := hqo.heap hwyb id
            have hdo3 := hdo2.out wo ht2.m hdaY2
            have x0 := cell_of_block hwyb 0 (v := .int .i64 z.kind) rfl
            have x1 := cell_of_block hwyb 1 (v := .int .i64 z.h) rfl
            have x2 := cell_of_block hwyb 2 (v := .int .i64 z.addr) rfl
            have x3 := cell_of_block hwyb 3 (v := .int .u64 (z.draw : Int)) rfl
            have x4 := cell_of_block hwyb 4 (v := .slice dp' z.data.length dc') rfl
            replace hdo3 := hide hdo3
            replace ht2 := hide ht2
            replace hw7b := hide hw7b
            replace hwo := hide hwo
            replace hno := hide hno
            replace hbo := hide hbo
            clear hqo hdo2 hdaY2 hwyb
            go_wp2_with fail
            refine hdo3.out.mono ?_
            rintro _ wd ⟨v, Q3, rfl, hd3, hto3, hs3⟩
            obtain ⟨p8, c8, hv8⟩ := hs3.slice
            subst hv8
            have ht3 := ht2.out.stepR hd3 hto3
            have hb3 : Q3.b = P'.b := hto3.b.trans hq'.out
            have hwo3 := (hto3.block hwo.out hno.out).1
            have hw7d := (hto3.block hw7b.out hEm.out).1
            clear hdo3 x0 x1 x2 x3 x4 ht2 hd3 hw7b hwo hto3 hs3
            go_upto_region 20 with (fail)
            have hwp := heap_alloc_new wd (.cells #[.slice p8 O.sends.length c8, .int .i64 cm, .int .i64 O.wake, .int .i64 O.reason] 39)
            have hqp : Mod NoB wd (wd.alloc (.cells #[.slice p8 O.sends.length c8, .int .i64 cm, .int .i64 O.wake, .int .i64 O.reason] 39)) := (Mod.refl _ _).alloc _
            generalize wd.alloc (.cells #[.slice p8 O.sends.length c8, .int .i64 cm, .int .i64 O.wake, .int .i64 O.reason] 39) = we at *
            replace ht3 := ht3.quiet hqp
            replace hwo3 := hqp.heap hwo3 id
            replace hw7d := hqp.heap hw7d id
            have y0 := cell_of_block hwo3 0 (v := .slice p9 O.sends.length c9) rfl
            have y1 := cell_of_block hwo3 1 (v := .int .i64 O.clock) rfl
            have y2 := cell_of_block hwo3 2 (v := .int .i64 O.wake) rfl
            have y3 := cell_of_block hwo3 3 (v := .int .i64 O.reason) rfl
            have z0 := cell_of_block hwp 0 (v := .slice p8 O.sends.length c8) rfl
            have z1 := cell_of_block hwp 1 (v := .int .i64 cm) rfl
            have z2' := cell_of_block hwp 2 (v := .int .i64 O.wake) rfl
            have z3 := cell_of_block hwp 3 (v := .int .i64 O.reason) rfl
            have x0 := cell_of_block hw7d 0 (v := .int .i64 z.kind) rfl
            have x3 := cell_of_block hw7d 3 (v := .int .u64 (z.draw : Int)) rfl
            replace ht3 := hide ht3
            replace hw7d := hide hw7d
            replace hwo3 := hide hwo3
            replace hwp := hide hwp
            clear hqp
            go_cut [129] (fun s129 wx => ∃ b : Bool, s129 = .bool b ∧ wx = we)
            case first =>
              by_cases h0 : er = 0
              · subst h0
                by_cases hk0 : z.kind = 0
                · by_cases hd0 : z.draw = 0
                  · have hb0 : ((z.draw : Int) != 0) = false := by simp [hd0]
                    go_wp2_with fail
                    go_meet
                    exact ⟨_, rfl, rfl⟩
                  · have hb0 : ((z.draw : Int) != 0) = true := by simpa using hd0
                    go_wp2_with fail
                    go_meet
                    exact ⟨_, rfl, rfl⟩
                · have hb0 : (z.kind == 0) = false := by simpa using hk0
                  go_wp2_with fail
                  go_meet
                  exact ⟨_, rfl, rfl⟩
              · have hb0 : (er == 0) = false := by simpa using h0
                go_wp2_with fail
                go_meet
                exact ⟨_, rfl, rfl⟩
            case rest =>
              obtain ⟨b, rfl, rfl⟩ := hcut
              go_upto_if 129 with (fail)
              go_cut [13] (fun s13 wx => ∃ dr2 : Nat, s13 = .int .u64 dr2 ∧ dr2 < 18446744073709551616 ∧ wx = wc)
              case first =>
                cases b with
                | true =>
                  go_wp2_with fail
                  go_meet
                  exact ⟨z.draw, rfl, iz4, rfl⟩
                | false =>
                  go_wp2_with fail
                  go_meet
                  exact ⟨dr, rfl, hdr.out, rfl⟩
              case rest =>
                obtain ⟨dr2, rfl, hdr2, rfl⟩ := hcut
                replace hdr2 := hide hdr2
                by_cases h0 : er = 0
                · subst h0
                  have hc3 := hcr.out rfl
                  have hc4 := hc1.out
                  have hc5 := hc2.out
                  go_wp2_with fail
                  go_roundw
                  case rel => exact ⟨k + 1, dr2, Q2, Q3, d', m', rfl, rfl, hkn, hdr2.out, hb2, hb3, hok2.out, hcn2.out, hokm2.out, hcnm2.out, hsh2.out, ht3.out⟩
                  case measure =>
                    show n - ((k : Int) + 1).toNat < n - (k : Int).toNat
                    omega
                · have hb0 : (er == 0) = false := by simpa using h0
                  go_wp2_with fail
                  go_roundw
                  case rel => exact ⟨k + 1, dr2, Q2, Q3, d', m', rfl, rfl, hkn, hdr2.out, hb2, hb3, hok2.out, hcn2.out, hokm2.out, hcnm2.out, hsh2.out, ht3.out⟩
                  case measure =>
                    show n - ((k : Int) + 1).toNat < n - (k : Int).toNat
                    omega
      · have hkf : ¬ ((k : Int) < n) := by omega
        have hmz := hide (hm1.out.trans ht.old)
        replace ht := hide ht
        clear hm3
        go_wp2_with fail
        refine (hal.out _ hmz.out).mono ?_
        rintro e w8 ⟨rfl, hm8⟩
        replace hmz := hide (hmz.out.trans hm8)
        clear hm8
        go_wp2_with fail
        go_ret
        exact ⟨rfl, hmz.out⟩
end Go.Proofs.YtjlilmonpklghaaGreatDoor.daemonApart
