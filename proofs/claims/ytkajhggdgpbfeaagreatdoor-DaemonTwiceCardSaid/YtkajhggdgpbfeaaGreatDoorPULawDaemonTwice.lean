/- Two daemons that do the same tell the same; what is told may be changed, and nothing is. No condition. -/
import Derived.Test.YtkajhggdgpbfeaaGreatDoorPUbj
import Derived.Test.YtkajhggdgpbfeaaGreatDoorPUam
import Derived.Lay
namespace Go.Proofs.YtkajhggdgpbfeaaGreatDoor.daemonTwice
open Go.ChangeShapes Go.WideShapes Go.ChangeAt Go.RowKit Go.Proofs.YtkajhggdgpbfeaaGreatDoor
set_option linter.unusedVariables false

theorem sameC_refl (a : Cfg) : sameC a a = true := by simp [sameC, eqI]
theorem intsL_of_own {w : World} {base c : Nat} {p : Option Addr} {xs : List Int} (h : w.ownsRow base 3 1 (.slice p xs.length c) xs.length (xs.map (Value.int .i64))) : IntsL w p xs := by
  intro j hj
  obtain ⟨g, c', hv, _, hc⟩ := row_at5 h (by omega)
  obtain ⟨rfl, _, rfl⟩ := Value.slice.inj hv
  have hx : w.cell? ⟨g, j, none⟩ = some (.int .i64 (xs.getD j 0)) := hc j _ (by simp [hj])
  exact ⟨g, 0, rfl, lt_of_cell hx, by rw [Nat.zero_add]; exact hx⟩
set_option maxRecDepth 100000 in
set_option maxHeartbeats 8000000 in
theorem walk (l : List UInt8) (hl : l.length ≤ 9223372036854775807) (p : Option Addr) (cap : Nat) (L : List ActS) (hLl : L.length ≤ 9223372036854775807) (w : World) (hL : LaidD w) (hA : ActsAt w p L) :
    Calls Tryz.prog 8 #[.string (bs l), .slice p L.length cap] w fun e w' => e = .returned (.bool true) ∧ Mod NoB w w' := by
  have hal := hide (fun wx (hm : Mod NoB w wx) => alive_any wx (hL.mod hm).n)
  have hgr := hide (fun wx (hm : Mod NoB w wx) => great_any p cap L hLl wx (hA.mod hm))
  have hnw := hide (fun wx (hm : Mod NoB w wx) => new_any l hl 0 0 wx (hL.mod hm).n)
  obtain ⟨n, hn⟩ : ∃ n, L.length = n := ⟨_, rfl⟩
  rw [hn] at hgr hLl ⊢
  replace hL := hide hL
  replace hA := hide hA
  replace hn := hide hn
  go_enter Tryz.func8, Tryz.ntmps8
  have hm1 : Hid (Mod NoB w w) := hide (Mod.refl _ _)
  by_cases h2l : 2000 < l.length
  · clear hgr hnw
    go_wp2_with fail
    refine (hal.out _ hm1.out).mono ?_
    rintro e w8 ⟨rfl, hm8⟩
    replace hm1 := hide (hm1.out.trans hm8)
    clear hm8
    go_wp2_with fail
    go_ret
    exact ⟨rfl, hm1.out⟩
  go_wp2_with fail
  refine (hgr.out _ hm1.out).mono ?_
  rintro e w2 ⟨g, rfl, hg, hm2⟩
  replace hm1 := hide (hm1.out.trans hm2)
  clear hm2 hgr
  rcases hg with rfl | ⟨rfl, hn80⟩
  · clear hnw
    go_wp2_with fail
    refine (hal.out _ hm1.out).mono ?_
    rintro e w8 ⟨rfl, hm8⟩
    replace hm1 := hide (hm1.out.trans hm8)
    clear hm8
    go_wp2_with fail
    go_ret
    exact ⟨rfl, hm1.out⟩
  replace hn80 := hide hn80
  go_wp2_with fail
  refine (hnw.out _ hm1.out).mono ?_
  rintro e w3 hp3
  have hm3 := hide (hm1.out.trans hp3.1)
  rcases hno : newOut l 0 0 with ⟨ln, er⟩ | c
  · obtain ⟨rfl, hm3'⟩ := new_none hp3 hno
    clear hp3 hm3'
    replace hno := hide hno
    go_wp2_with fail
    refine (hnw.out _ hm3.out).mono ?_
    rintro e w4 hp4
    obtain ⟨rfl, hm4⟩ := new_none hp4 hno.out
    replace hm3 := hide (hm3.out.trans hm4)
    clear hp4 hm4 hnw
    have hne := newOut_no hno.out
    have heb : (er != 0) = true := by simpa using hne
    replace hne := hide hne
    go_wp2_with fail
    refine (hal.out _ hm3.out).mono ?_
    rintro e w8 ⟨rfl, hm8⟩
    replace hm3 := hide (hm3.out.trans hm8)
    clear hm8
    go_wp2_with fail
    go_ret
    exact ⟨by simp, hm3.out⟩
  · obtain ⟨P, rfl, ho3⟩ := One.new hp3 hno
    clear hp3
    have hck := (newOut_yes hno).2.2.1
    have hne0 := (newOut_yes hno).2.2.2
    replace hck := hide hck
    replace hne0 := hide hne0
    replace hno := hide hno
    replace ho3 := hide ho3
    go_wp2_with fail
    refine (hnw.out _ hm3.out).mono ?_
    rintro e w4 hp4
    obtain ⟨P', rfl, ht4⟩ := Two.new ho3.out hp4 hno.out
    replace hm3 := hide (hm3.out.trans hp4.1)
    clear hp4 ho3 hnw
    replace ht4 := hide ht4
    go_wp2_with fail
    have hb0 := ht4.out.left.b
    have hb0' := ht4.out.right.b
    go_loopw [74, 11] (fun s74 s11 wr => ∃ (k dr : Nat) (Q Q' : DPl) (d : DaemonS), s74 = .int .i64 k ∧ s11 = .int .u64 dr ∧ k ≤ n ∧ dr < 18446744073709551616 ∧ Q.b = P.b ∧ Q'.b = P'.b ∧ d.Ok ∧ d.Cnt k ∧ d.votes.length ≤ 16 ∧ Two w2 Q Q' d d wr) (fun s74 _ wr => n - (match s74 with | .int _ i => i.toNat | _ => 0))
    case atStart => exact ⟨0, 0, P, P', newS c 0 0, rfl, rfl, Nat.zero_le _, by decide, rfl, rfl, (newS_ok hck.out hne0.out).1, (newS_ok hck.out hne0.out).2, by simp [newS], ht4.out⟩
    case round =>
      obtain ⟨k, dr, Q, Q', d, rfl, rfl, hk, hdr, hq, hq', hok, hcn, hvt, ht⟩ := hrel
      replace hq := hide hq
      replace hq' := hide hq'
      replace hok := hide hok
      replace hcn := hide hcn
      replace hdr := hide hdr
      replace hvt := hide hvt
      by_cases hkn : k < n
      · clear hm3
        obtain ⟨x, hx⟩ : ∃ x, L[k]? = some x := ⟨L[k]'(by rw [hn.out]; exact hkn), List.getElem?_eq_getElem (by rw [hn.out]; exact hkn)⟩
        obtain ⟨g, off, rfl, hglt, hat⟩ := hA.out k x hx
        obtain ⟨⟨dp, dc, c0, c1, c2, c3, c4, c5, hda, hdl⟩, ik, ih, ia, id'⟩ := hat
        have hmr := hm1.out.trans ht.old
        replace c0 := hmr.cellAt id c0
        replace c1 := hmr.cellAt id c1
        replace c2 := hmr.cellAt id c2
        replace c3 := hmr.cellAt id c3
        replace c4 := hmr.cellAt id c4
        replace c5 := hmr.cellAt id c5
        replace hda := hda.mod hmr
        replace hglt := Nat.lt_of_lt_of_le hglt hmr.size
        replace hdl : ∀ bd off, dp = some ⟨bd, off, none⟩ → 0 < x.e.data.length → bd < w2.heap.size := fun bd off a b => Nat.lt_of_lt_of_le (hdl bd off a b) hm1.out.size
        replace hdl := hide hdl
        clear hmr
        replace ht := hide ht
        replace hda := hide hda
        replace hx := hide hx
        have hki : (k : Int) < n := by omega
        go_upto_region 11 with (fail)
        have hw5 := heap_alloc_new wr (.cells #[.int .i64 x.e.kind, .int .i64 x.e.h, .int .i64 x.e.addr, .int .u64 (x.e.draw : Int), .slice dp x.e.data.length dc, .bool x.good] 35)
        have hq5 : Mod NoB wr (wr.alloc (.cells #[.int .i64 x.e.kind, .int .i64 x.e.h, .int .i64 x.e.addr, .int .u64 (x.e.draw : Int), .slice dp x.e.data.length dc, .bool x.good] 35)) := (Mod.refl _ _).alloc _
        generalize wr.alloc (.cells #[.int .i64 x.e.kind, .int .i64 x.e.h, .int .i64 x.e.addr, .int .u64 (x.e.draw : Int), .slice dp x.e.data.length dc, .bool x.good] 35) = w5 at *
        replace hda := hide (hda.out.mod hq5)
        replace ht := hide (ht.out.quiet hq5)
        clear hq5 c0 c1 c2 c3 c4 c5
        have c0 := cell_of_block hw5 0 (v := .int .i64 x.e.kind) rfl
        have c1 := cell_of_block hw5 1 (v := .int .i64 x.e.h) rfl
        have c2 := cell_of_block hw5 2 (v := .int .i64 x.e.addr) rfl
        have c3 := cell_of_block hw5 3 (v := .int .u64 (x.e.draw : Int)) rfl
        have c4 := cell_of_block hw5 4 (v := .slice dp x.e.data.length dc) rfl
        have c5 := cell_of_block hw5 5 (v := .bool x.good) rfl
        replace hw5 := hide hw5
        have hev := hide (event_any x dp dc dr hdr.out id' w5 hda.out)
        go_wp2_with fail
        refine hev.out.mono ?_
        rintro e w6 ⟨dp', dc', rfl, hda6, hap6, hm6⟩
        clear hev c0 c1 c2 c3 c4 c5 hw5
        obtain ⟨z, hz⟩ : ∃ z, evOf x dr = z := ⟨_, rfl⟩
        rw [hz] at hda6 hap6 ⊢
        have hap := hide (ev_apart (w := w5) (l' := z.data) (dp' := dp') ht.out.left (dp := dp) (l := x.e.data) hdl.out hap6)
        have hap' := hide (ev_apart (w := w5) (l' := z.data) (dp' := dp') ht.out.right (dp := dp) (l := x.e.data) hdl.out hap6)
        replace ht := hide (ht.out.quiet hm6)
        replace hda6 := hide hda6
        obtain ⟨iz1, iz2, iz3, iz4⟩ := evOf_in ik ih ia id' dr
        rw [hz] at iz1 iz2 iz3 iz4
        replace hz := hide hz
        clear hm6 hap6 hda
        go_upto_region 12 with (fail)
        have hEn : ¬ fpD Q w6.heap.size := fun x => Nat.lt_irrefl _ (ht.out.d.lt _ x)
        have hEm : ¬ fpD Q' w6.heap.size := fun x => Nat.lt_irrefl _ (ht.out.m.lt _ x)
        have hw7 := heap_alloc_new w6 (.cells #[.int .i64 z.kind, .int .i64 z.h, .int .i64 z.addr, .int .u64 (z.draw : Int), .slice dp' z.data.length dc'] 33)
        have hq7 : Mod NoB w6 (w6.alloc (.cells #[.int .i64 z.kind, .int .i64 z.h, .int .i64 z.addr, .int .u64 (z.draw : Int), .slice dp' z.data.length dc'] 33)) := (Mod.refl _ _).alloc _
        generalize w6.alloc (.cells #[.int .i64 z.kind, .int .i64 z.h, .int .i64 z.addr, .int .u64 (z.draw : Int), .slice dp' z.data.length dc'] 33) = w7 at *
        replace hda6 := hide (hda6.out.mod hq7)
        replace ht := hide (ht.out.quiet hq7)
        obtain ⟨bE, hbE⟩ : ∃ bE, w6.heap.size = bE := ⟨_, rfl⟩
        rw [hbE] at hw7 hEn hEm ⊢
        replace hEn := hide hEn
        replace hEm := hide hEm
        clear hq7
        replace hw7 := hide hw7
        replace hbE := hide hbE
        have x0 := cell_of_block hw7.out 0 (v := .int .i64 z.kind) rfl
        have x1 := cell_of_block hw7.out 1 (v := .int .i64 z.h) rfl
        have x2 := cell_of_block hw7.out 2 (v := .int .i64 z.addr) rfl
        have x3 := cell_of_block hw7.out 3 (v := .int .u64 (z.draw : Int)) rfl
        have x4 := cell_of_block hw7.out 4 (v := .slice dp' z.data.length dc') rfl
        have hN8 : (k : Int) ≤ 9007199254740992 := by have := hn80.out; omega
        have hdo := do_z (P := Q) hok.out hcn.out hN8 iz1 iz2 iz4 dp' dc' ht.out.d hda6.out hap.out
        have hdo2 := hide (fun wx (hx : DO wx Q' d) (hy : DataAt wx (.slice dp' z.data.length dc') z.data) => do_z (P := Q') hok.out hcn.out hN8 iz1 iz2 iz4 dp' dc' hx hy hap'.out)
        obtain ⟨hsk, hs16⟩ := do_sendsOk hok.out z
        obtain ⟨hok2, hcn2⟩ := hok.out.do (e := z) iz4 hcn.out hN8
        have hvt2 := do_votes hok.out hvt.out z
        obtain ⟨er, her⟩ : ∃ er, errS d z = er := ⟨_, rfl⟩
        obtain ⟨d', hd'⟩ : ∃ d', (doS d z).1 = d' := ⟨_, rfl⟩
        obtain ⟨O, hO⟩ : ∃ O, (doS d z).2 = O := ⟨_, rfl⟩
        rw [her, hd', hO, hq.out] at hdo
        rw [her, hd', hO, hq'.out] at hdo2
        rw [hO] at hsk hs16
        rw [hd'] at hok2 hcn2 hvt2
        replace her := hide her
        replace hd' := hide hd'
        replace hO := hide hO
        replace hdo := hide hdo
        replace hsk := hide hsk
        replace hok2 := hide hok2
        replace hcn2 := hide hcn2
        replace hvt2 := hide hvt2
        go_wp2_with fail
        refine hdo.out.mono ?_
        rintro _ wb ⟨v, Q2, rfl, hd2, hto2, hs2⟩
        obtain ⟨p9, c9, hv9⟩ := hs2.slice
        subst hv9
        have hf1 := ht.out.m.lt
        have hfb : Q.b < w7.heap.size := ht.out.d.lt _ .b
        have hfb' : Q'.b < w7.heap.size := ht.out.m.lt _ .b
        have hb2 : Q2.b = P.b := hto2.b.trans hq.out
        have ht2 := ht.out.stepL hd2 hto2
        have hda8 := (hto2.data hda6.out hap.out).1
        have hw7b := (hto2.block hw7.out hEn.out).1
        clear hdo x0 x1 x2 x3 x4 ht hd2 hto2 hw7 hda6
        go_upto_region 13 with (fail)
        have hwo := heap_alloc_new wb (.cells #[.slice p9 O.sends.length c9, .int .i64 O.clock, .int .i64 O.wake, .int .i64 O.reason] 39)
        have hqo : Mod NoB wb (wb.alloc (.cells #[.slice p9 O.sends.length c9, .int .i64 O.clock, .int .i64 O.wake, .int .i64 O.reason] 39)) := (Mod.refl _ _).alloc _
        generalize wb.alloc (.cells #[.slice p9 O.sends.length c9, .int .i64 O.clock, .int .i64 O.wake, .int .i64 O.reason] 39) = wo at *
        obtain ⟨bo, hbo⟩ : ∃ bo, wb.heap.size = bo := ⟨_, rfl⟩
        rw [hbo] at hwo ⊢
        have hno : ¬ fpD Q' bo := fun x => by have := ht2.m.lt _ x; omega
        replace ht2 := ht2.quiet hqo
        replace hda8 := hda8.mod hqo
        replace hw7b := hqo.heap hw7b id
        replace hs2 := hs2.mod hqo (fun _ _ => id)
        have hdo3 := hdo2.out wo ht2.m hda8
        have x0 := cell_of_block hw7b 0 (v := .int .i64 z.kind) rfl
        have x1 := cell_of_block hw7b 1 (v := .int .i64 z.h) rfl
        have x2 := cell_of_block hw7b 2 (v := .int .i64 z.addr) rfl
        have x3 := cell_of_block hw7b 3 (v := .int .u64 (z.draw : Int)) rfl
        have x4 := cell_of_block hw7b 4 (v := .slice dp' z.data.length dc') rfl
        replace hdo3 := hide hdo3
        replace ht2 := hide ht2
        replace hda8 := hide hda8
        replace hw7b := hide hw7b
        replace hs2 := hide hs2
        replace hwo := hide hwo
        replace hno := hide hno
        replace hbo := hide hbo
        replace hf1 := hide hf1
        clear hqo hdo2
        go_wp2_with fail
        refine hdo3.out.mono ?_
        rintro _ wd ⟨v, Q3, rfl, hd3, hto3, hs3⟩
        obtain ⟨p8, c8, hv8⟩ := hs3.slice
        subst hv8
        have ht3 := ht2.out.stepR hd3 hto3
        have hs4 := hto3.sends hs2.out hf1.out
        have hb3 : Q3.b = P'.b := hto3.b.trans hq'.out
        have hwo3 := (hto3.block hwo.out hno.out).1
        have hw7d := (hto3.block hw7b.out hEm.out).1
        clear hdo3 x0 x1 x2 x3 x4 ht2 hd3 hda8 hw7b hs2 hwo hto3
        go_upto_region 14 with (fail)
        have hwp := heap_alloc_new wd (.cells #[.slice p8 O.sends.length c8, .int .i64 O.clock, .int .i64 O.wake, .int .i64 O.reason] 39)
        have hqp : Mod NoB wd (wd.alloc (.cells #[.slice p8 O.sends.length c8, .int .i64 O.clock, .int .i64 O.wake, .int .i64 O.reason] 39)) := (Mod.refl _ _).alloc _
        generalize wd.alloc (.cells #[.slice p8 O.sends.length c8, .int .i64 O.clock, .int .i64 O.wake, .int .i64 O.reason] 39) = we at *
        replace ht3 := ht3.quiet hqp
        replace hs3 := hs3.mod hqp (fun _ _ => id)
        replace hs4 := hs4.mod hqp (fun _ _ => id)
        replace hwo3 := hqp.heap hwo3 id
        replace hw7d := hqp.heap hw7d id
        have y0 := cell_of_block hwo3 0 (v := .slice p9 O.sends.length c9) rfl
        have y1 := cell_of_block hwo3 1 (v := .int .i64 O.clock) rfl
        have y2 := cell_of_block hwo3 2 (v := .int .i64 O.wake) rfl
        have y3 := cell_of_block hwo3 3 (v := .int .i64 O.reason) rfl
        have z0 := cell_of_block hwp 0 (v := .slice p8 O.sends.length c8) rfl
        have z1 := cell_of_block hwp 1 (v := .int .i64 O.clock) rfl
        have z2 := cell_of_block hwp 2 (v := .int .i64 O.wake) rfl
        have z3 := cell_of_block hwp 3 (v := .int .i64 O.reason) rfl
        have hsm := hide (same_out _ _ O.sends O.clock O.wake O.reason _ _ we hs4 hs3 hsk.out (Nat.le_trans hs16 (by decide)))
        have hsw := SendsW.of hs4 hsk.out
        replace ht3 := hide ht3
        replace hw7d := hide hw7d
        replace hwo3 := hide hwo3
        clear hqp hs3 hs4 hwp
        go_wp2_with fail
        refine hsm.out.mono ?_
        rintro _ wf ⟨rfl, hmf⟩
        replace ht3 := hide (ht3.out.quiet hmf)
        replace hw7d := hmf.heap hw7d.out id
        replace hwo3 := hide (hmf.heap hwo3.out id)
        replace hsw := hide (hsw.quiet hmf)
        clear hmf hsm y0 y1 y2 y3 z0 z1 z2 z3
        have x0 := cell_of_block hw7d 0 (v := .int .i64 z.kind) rfl
        have x3 := cell_of_block hw7d 3 (v := .int .u64 (z.draw : Int)) rfl
        replace hw7d := hide hw7d
        go_upto_region 16 with (fail)
        go_cut [113] (fun s113 wx => ∃ b : Bool, s113 = .bool b ∧ wx = wf)
        case first =>
          by_cases h0 : er = 0
          · subst h0
            by_cases hk0 : z.kind = 0
            · by_cases hd0 : z.draw = 0
              · have hb0 : ((z.draw : Int) != 0) = false := by simp [hd0]
                go_wp2_with fail
                go_meet
                exact ⟨_, rfl, rfl⟩
              · have hb0 : ((z.draw : Int) != 0) = true := by simpa using hd0
                go_wp2_with fail
                go_meet
                exact ⟨_, rfl, rfl⟩
            · have hb0 : (z.kind == 0) = false := by simpa using hk0
              go_wp2_with fail
              go_meet
              exact ⟨_, rfl, rfl⟩
          · have hb0 : (er == 0) = false := by simpa using h0
            go_wp2_with fail
            go_meet
            exact ⟨_, rfl, rfl⟩
        case rest =>
          obtain ⟨b, rfl, rfl⟩ := hcut
          go_upto_if 113 with (fail)
          go_cut [11] (fun s11 wx => ∃ dr2 : Nat, s11 = .int .u64 dr2 ∧ dr2 < 18446744073709551616 ∧ wx = wc)
          case first =>
            cases b with
            | true =>
              go_wp2_with fail
              go_meet
              exact ⟨z.draw, rfl, iz4, rfl⟩
            | false =>
              go_wp2_with fail
              go_meet
              exact ⟨dr, rfl, hdr.out, rfl⟩
          case rest =>
            obtain ⟨dr2, rfl, hdr2, rfl⟩ := hcut
            replace hdr2 := hide hdr2
            obtain ⟨B0, hB0⟩ : ∃ B0, w7.heap.size = B0 := ⟨_, rfl⟩
            rw [hB0] at hsw hfb hfb'
            obtain ⟨ns, hns⟩ : ∃ ns, O.sends.length = ns := ⟨_, rfl⟩
            rw [hns] at hsw hs16 hwo3
            have y0 := cell_of_block hwo3.out 0 (v := .slice p9 ns c9) rfl
            have hQ2 : Q2.b ≤ B0 := by have := hb2.trans hq.out.symm; omega
            have hQ3 : Q3.b ≤ B0 := by have := hb3.trans hq'.out.symm; omega
            clear hap hap' hwo3 hno hw7d x0 x3 hf1 hsk hEn hEm
            go_wp2_with fail
            try rw [hns]
            replace hns := hide hns
            go_loopw [119] (fun s119 wx => ∃ j : Nat, s119 = .int .i64 j ∧ j ≤ ns ∧ Two w2 Q2 Q3 d' d' wx ∧ SendsW wx B0 (.slice p9 ns c9) ns) (fun s119 wx => ns - (match s119 with | .int _ i => i.toNat | _ => 0))
            case atStart => exact ⟨0, rfl, Nat.zero_le _, ht3.out, hsw.out⟩
            case round =>
              obtain ⟨j, rfl, hj, ht5, hs5⟩ := hrel
              by_cases hjs : j < ns
              · obtain ⟨g, c, a, u, m, q, cur, ob, hv, hg0, hgo, hgt, ca, cb, hu0, huo, hmc, hm9⟩ := hs5 j hjs
                obtain ⟨rfl, _, rfl⟩ := Value.slice.inj hv
                have hji : (j : Int) < ns := by omega
                replace ht5 := hide ht5
                replace hs5 := hide hs5
                replace hgo := hide hgo
                replace huo := hide huo
                clear hv
                go_upto_region 21 with (fail)
                have hsb := heap_alloc_new wr (.cells #[.int .i64 a, .slice (some ⟨u, 0, none⟩) m q] 43)
                have hqb : Mod NoB wr (wr.alloc (.cells #[.int .i64 a, .slice (some ⟨u, 0, none⟩) m q] 43)) := (Mod.refl _ _).alloc _
                generalize wr.alloc (.cells #[.int .i64 a, .slice (some ⟨u, 0, none⟩) m q] 43) = ws at *
                obtain ⟨sb, hsbs⟩ : ∃ sb, wr.heap.size = sb := ⟨_, rfl⟩
                rw [hsbs] at hsb ⊢
                have hus : u ≠ sb := by have := lt_of_block huo.out; omega
                replace ht5 := hide (ht5.out.quiet hqb)
                replace hs5 := hide (hs5.out.quiet hqb)
                replace huo := hide (hqb.heap huo.out id)
                have b1 := cell_of_block hsb 1 (v := .slice (some ⟨u, 0, none⟩) m q) rfl
                replace hsb := hide hsb
                replace hsbs := hide hsbs
                clear hqb ca cb hgo
                go_wp2_with fail
                go_loopw [126] (fun s126 wx => ∃ i : Nat, s126 = .int .i64 i ∧ i ≤ m ∧ Two w2 Q2 Q3 d' d' wx ∧ SendsW wx B0 (.slice (some ⟨g, 0, none⟩) ns c9) ns ∧ wx.heap[sb]? = some (.cells #[.int .i64 a, .slice (some ⟨u, 0, none⟩) m q] 43 (0, 0)) ∧ ∃ cur, wx.heap[u]? = some (.cells cur 5 (0, 0)) ∧ m ≤ cur.size) (fun s126 wx => m - (match s126 with | .int _ i => i.toNat | _ => 0))
                case atStart => exact ⟨0, rfl, Nat.zero_le _, ht5.out, hs5.out, hsb.out, cur, huo.out, hmc⟩
                case round =>
                  obtain ⟨i, rfl, hi, ht6, hs6, hsb6, cur6, hu6, hm6⟩ := hrel
                  have b1 := cell_of_block hsb6 1 (v := .slice (some ⟨u, 0, none⟩) m q) rfl
                  by_cases him : i < m
                  · have hii : (i : Int) < m := by omega
                    obtain ⟨y, hy⟩ : ∃ y, cur6[i]? = some y := ⟨cur6[i]'(by omega), by simp [show i < cur6.size by omega]⟩
                    have e0 := cell_of_block hu6 i hy
                    have f0 := frozen_of_block hu6 i
                    have ht7 := hide (ht6.byte hu6 (Nat.le_trans hQ2 hu0) (Nat.le_trans hQ3 hu0) i (.int .u8 0))
                    have hs7 := hide (hs6.put hu6 i (.int .u8 0))
                    have hsb7 := hide ((heap_setCell_ne (w := wr) (a := ⟨u, i, none⟩) (b := sb) (Ne.symm hus) (.int .u8 0)).trans hsb6)
                    have hu7 := hide (heap_setCell_eq hu6 (o := i) (.int .u8 0))
                    replace ht6 := hide ht6
                    replace hs6 := hide hs6
                    replace hsb6 := hide hsb6
                    replace hu6 := hide hu6
                    replace hy := hide hy
                    go_wp2_with fail
                    go_roundw
                    case rel => exact ⟨i + 1, rfl, him, ht7.out, hs7.out, hsb7.out, _, hu7.out, by simpa using hm6⟩
                    case measure =>
                      show m - ((i : Int) + 1).toNat < m - (i : Int).toNat
                      omega
                  · have hii : ¬ ((i : Int) < m) := by omega
                    replace ht6 := hide ht6
                    replace hs6 := hide hs6
                    go_wp2_with fail
                    go_roundw
                    case rel => exact ⟨j + 1, rfl, hjs, ht6.out, hs6.out⟩
                    case measure =>
                      show ns - ((j : Int) + 1).toNat < ns - (j : Int).toNat
                      omega
              · have hji : ¬ ((j : Int) < ns) := by omega
                have hla := hide (fun wx (hx : DO wx Q2 d') => dlast_any Q2 d' (Nat.le_trans hvt2.out (by decide)) wx hx)
                have hlb := hide (fun wx (hx : DO wx Q3 d') => dlast_any Q3 d' (Nat.le_trans hvt2.out (by decide)) wx hx)
                rw [hb2] at hla
                rw [hb3] at hlb
                replace ht5 := hide ht5
                clear hs5
                go_wp2_with fail
                refine (hla.out _ ht5.out.d).mono ?_
                rintro _ wi ⟨v1, rfl, hr1, hmi⟩
                obtain ⟨q1, d1, rfl⟩ := own_value hr1
                replace ht5 := hide (ht5.out.quiet hmi)
                clear hr1 hmi
                go_wp2_with fail
                refine (hla.out _ ht5.out.d).mono ?_
                rintro _ wj ⟨v2, rfl, hr2, hmj⟩
                obtain ⟨q2, d2, rfl⟩ := own_value hr2
                have hfr := FreeRow.of ht5.out hr2
                replace ht5 := hide (ht5.out.quiet hmj)
                clear hr2 hmj hla
                obtain ⟨nv, hnv⟩ : ∃ nv, d'.votes.length = nv := ⟨_, rfl⟩
                rw [hnv] at hfr hlb hvt2
                have hv16 := hvt2.out
                have hcg := hide (fun wx (hx : DO wx Q2 d') => dconfig_any Q2 d' (by have := (cfg_nums hok2.out.c).2.2.1; omega) (Nat.le_trans (fine_srv (check_fine hok2.out.c)).2.1 (by decide)) wx hx)
                rw [hb2] at hcg
                have hs16 := (fine_srv (check_fine hok2.out.c)).2.1
                go_wp2_with fail
                try rw [hnv]
                replace hnv := hide hnv
                go_loopw [147] (fun s147 wx => ∃ i : Nat, s147 = .int .i64 i ∧ i ≤ nv ∧ Two w2 Q2 Q3 d' d' wx ∧ FreeRow wx 81 6 q2 nv Q2 Q3 w2.heap.size) (fun s147 wx => nv - (match s147 with | .int _ i => i.toNat | _ => 0))
                case atStart => exact ⟨0, rfl, Nat.zero_le _, ht5.out, hfr⟩
                case round =>
                  obtain ⟨i, rfl, hi, ht6, hf6⟩ := hrel
                  by_cases him : i < nv
                  · have hii : (i : Int) < nv := by omega
                    obtain ⟨gv, cur, rfl, hg6, hsz, hn1, hn2, hlo⟩ := hf6 (by omega)
                    obtain ⟨y, hy⟩ : ∃ y, cur[i * 6 + 5]? = some y := ⟨cur[i * 6 + 5]'(by omega), by simp [show i * 6 + 5 < cur.size by omega]⟩
                    have e0 := cell_of_block hg6 (i * 6 + 5) hy
                    have f0 := frozen_of_block hg6 (i * 6 + 5)
                    have ht7 := hide (ht6.free hn1 hn2 hlo (i * 6 + 5) (.int .i64 99))
                    have hf7 := hide (hf6.put (i * 6 + 5) (.int .i64 99))
                    replace ht6 := hide ht6
                    replace hf6 := hide hf6
                    replace hg6 := hide hg6
                    replace hy := hide hy
                    go_wp2_with fail
                    go_roundw
                    case rel => exact ⟨i + 1, rfl, him, ht7.out, hf7.out⟩
                    case measure =>
                      show nv - ((i : Int) + 1).toNat < nv - (i : Int).toNat
                      omega
                  · have hii : ¬ ((i : Int) < nv) := by omega
                    replace ht6 := hide ht6
                    clear hf6 hfr
                    go_wp2_with fail
                    refine (hcg.out _ ht6.out.d).mono ?_
                    rintro _ wk ⟨v4, rfl, hr4, hm4⟩
                    obtain ⟨q4, d4, rfl⟩ := own_value hr4
                    have hfr4 := FreeRow.of ht6.out hr4
                    replace ht6 := hide (ht6.out.quiet hm4)
                    clear hr4 hm4 hcg
                    obtain ⟨nc, hnc⟩ : ∃ nc, d'.c.srv.length = nc := ⟨_, rfl⟩
                    rw [hnc] at hfr4 hs16
                    go_upto_region 35 with (fail)
                    try rw [hnc]
                    have hnb := heap_alloc_new wk (.cells #[.slice q4 nc d4, .int .i64 d'.c.q, .int .i64 d'.c.l, .int .i64 d'.c.m, .int .i64 d'.c.d, .int .i64 d'.c.s] 59)
                    have hqn : Mod NoB wk (wk.alloc (.cells #[.slice q4 nc d4, .int .i64 d'.c.q, .int .i64 d'.c.l, .int .i64 d'.c.m, .int .i64 d'.c.d, .int .i64 d'.c.s] 59)) := (Mod.refl _ _).alloc _
                    generalize wk.alloc (.cells #[.slice q4 nc d4, .int .i64 d'.c.q, .int .i64 d'.c.l, .int .i64 d'.c.m, .int .i64 d'.c.d, .int .i64 d'.c.s] 59) = wl at *
                    obtain ⟨nb, hnbs⟩ : ∃ nb, wk.heap.size = nb := ⟨_, rfl⟩
                    rw [hnbs] at hnb ⊢
                    have hng : ∀ g cur, q4 = some ⟨g, 0, none⟩ → wk.heap[g]? = some (.cells cur 3 (0, 0)) → g ≠ nb := fun g cur _ h e => by have := lt_of_block h; omega
                    have hg4 : 0 < nc → ∃ g, q4 = some ⟨g, 0, none⟩ ∧ g ≠ nb := fun h0 => let ⟨g, cur, e, h, _⟩ := hfr4 h0; ⟨g, e, hng g cur e h⟩
                    replace ht6 := hide (ht6.out.quiet hqn)
                    replace hfr4 := hide (hfr4.quiet hqn)
                    have n0 := cell_of_block hnb 0 (v := .slice q4 nc d4) rfl
                    replace hnb := hide hnb
                    replace hnc := hide hnc
                    clear hqn hng
                    go_wp2_with fail
                    go_loopw [160] (fun s160 wx => ∃ i : Nat, s160 = .int .i64 i ∧ i ≤ nc ∧ Two w2 Q2 Q3 d' d' wx ∧ FreeRow wx 3 1 q4 nc Q2 Q3 w2.heap.size ∧ wx.heap[nb]? = some (.cells #[.slice q4 nc d4, .int .i64 d'.c.q, .int .i64 d'.c.l, .int .i64 d'.c.m, .int .i64 d'.c.d, .int .i64 d'.c.s] 59 (0, 0))) (fun s160 wx => nc - (match s160 with | .int _ i => i.toNat | _ => 0))
                    case atStart => exact ⟨0, rfl, Nat.zero_le _, ht6.out, hfr4.out, hnb.out⟩
                    case round =>
                      obtain ⟨i, rfl, hi, ht7, hf7, hnb7⟩ := hrel
                      have n0 := cell_of_block hnb7 0 (v := .slice q4 nc d4) rfl
                      by_cases him : i < nc
                      · have hii : (i : Int) < nc := by omega
                        obtain ⟨gv, cur, hq4, hg6, hsz, hn1, hn2, hlo⟩ := hf7 (by omega)
                        obtain ⟨gv', hq4', hne⟩ := hg4 (by omega)
                        rw [hq4] at hq4'
                        cases hq4'
                        subst hq4
                        obtain ⟨y, hy⟩ : ∃ y, cur[i]? = some y := ⟨cur[i]'(by omega), by simp [show i < cur.size by omega]⟩
                        have e0 := cell_of_block hg6 i hy
                        have f0 := frozen_of_block hg6 i
                        have ht8 := hide (ht7.free hn1 hn2 hlo i (.int .i64 0))
                        have hf8 := hide (hf7.put i (.int .i64 0))
                        have hnb8 := hide ((heap_setCell_ne (w := wr) (a := ⟨gv, i, none⟩) (b := nb) (Ne.symm hne) (.int .i64 0)).trans hnb7)
                        replace ht7 := hide ht7
                        replace hf7 := hide hf7
                        replace hg6 := hide hg6
                        replace hnb7 := hide hnb7
                        replace hy := hide hy
                        clear hg4
                        go_wp2_with fail
                        go_roundw
                        case rel => exact ⟨i + 1, rfl, him, ht8.out, hf8.out, hnb8.out⟩
                        case measure =>
                          show nc - ((i : Int) + 1).toNat < nc - (i : Int).toNat
                          omega
                      · have hii : ¬ ((i : Int) < nc) := by omega
                        have hcd := hide (fun wx (hm : Mod NoB w wx) (hx : DO wx Q2 d') => dcounts_any Q2 d' hok2.out.n (hok2.out.cnts hcn2.out (by have := hn80.out; omega)) wx hx (hL.out.mod hm).c)
                        have hcm := hide (fun wx (hm : Mod NoB w wx) (hx : DO wx Q3 d') => dcounts_any Q3 d' hok2.out.n (hok2.out.cnts hcn2.out (by have := hn80.out; omega)) wx hx (hL.out.mod hm).c)
                        have hed := hide (fun wx (hx : DO wx Q2 d') => dchosen_any Q2 d' wx hx)
                        have hem := hide (fun wx (hx : DO wx Q3 d') => dchosen_any Q3 d' wx hx)
                        rw [hb2] at hcd hed
                        rw [hb3] at hcm hem
                        replace ht7 := hide ht7
                        clear hf7 hnb7 hg4
                        go_wp2_with fail
                        refine (hlb.out _ ht7.out.m).mono ?_
                        rintro _ wm ⟨v5, rfl, hr5, hm5⟩
                        obtain ⟨q5, d5, rfl⟩ := own_value hr5
                        replace ht7 := hide (ht7.out.quiet hm5)
                        clear hr5 hm5 hlb
                        go_wp2_with fail
                        refine (hcd.out wm (hm1.out.trans ht7.out.old) ht7.out.d).mono ?_
                        rintro _ wg ⟨rfl, hmg⟩
                        replace ht7 := hide (ht7.out.quiet hmg)
                        clear hmg hcd
                        go_wp2_with fail
                        refine (hcm.out wg (hm1.out.trans ht7.out.old) ht7.out.m).mono ?_
                        rintro _ wh ⟨rfl, hmh⟩
                        replace ht7 := hide (ht7.out.quiet hmh)
                        clear hmh hcm
                        go_wp2_with fail
                        refine (hed.out wh ht7.out.d).mono ?_
                        rintro _ _ ⟨rfl, rfl⟩
                        go_wp2_with fail
                        refine (hem.out wh ht7.out.m).mono ?_
                        rintro _ _ ⟨rfl, rfl⟩
                        go_wp2_with fail
                        go_roundw
                        case rel => exact ⟨k + 1, dr2, Q2, Q3, d', rfl, rfl, hkn, hdr2.out, hb2, hb3, hok2.out, hcn2.out, by rw [hnv.out]; exact hvt2.out, ht7.out⟩
                        case measure =>
                          show n - ((k : Int) + 1).toNat < n - (k : Int).toNat
                          omega
      · have hkf : ¬ ((k : Int) < n) := by omega
        have hmz := hide (hm1.out.trans ht.old)
        have hcg := hide (fun wx (hx : DO wx Q d) => dconfig_any Q d (by have := (cfg_nums hok.out.c).2.2.1; omega) (Nat.le_trans (fine_srv (check_fine hok.out.c)).2.1 (by decide)) wx hx)
        have hch := hide (fun wx (hx : DO wx Q' d) => dconfig_any Q' d (by have := (cfg_nums hok.out.c).2.2.1; omega) (Nat.le_trans (fine_srv (check_fine hok.out.c)).2.1 (by decide)) wx hx)
        rw [hq.out] at hcg
        rw [hq'.out] at hch
        replace ht := hide ht
        clear hm3
        go_wp2_with fail
        refine (hal.out _ hmz.out).mono ?_
        rintro e w8 ⟨rfl, hm8⟩
        replace hmz := hide (hmz.out.trans hm8)
        replace ht := hide (ht.out.quiet hm8)
        clear hm8
        go_wp2_with fail
        refine (hcg.out _ ht.out.d).mono ?_
        rintro _ wk ⟨v4, rfl, hr4, hm4⟩
        obtain ⟨q4, d4, rfl⟩ := own_value hr4
        replace ht := hide (ht.out.quiet hm4)
        have hi4 := hide (intsL_of_own hr4)
        replace hmz := hide (hmz.out.trans hm4)
        clear hr4 hm4
        go_wp2_with fail
        refine (hch.out _ ht.out.m).mono ?_
        rintro _ wl ⟨v5, rfl, hr5, hm5⟩
        obtain ⟨q5, d5, rfl⟩ := own_value hr5
        have hi5 := hide (intsL_of_own hr5)
        replace hi4 := hide (hi4.out.mod0 hm5)
        replace hmz := hide (hmz.out.trans hm5)
        clear hr5 hm5 ht
        have hsm := hide (rsame_any d.c d.c q4 q5 d4 d5 wl hi4.out hi5.out (Nat.le_trans (fine_srv (check_fine hok.out.c)).2.1 (by decide)))
        rw [sameC_refl] at hsm
        go_wp2_with fail
        refine hsm.out.mono ?_
        rintro _ wm ⟨rfl, hm6⟩
        replace hmz := hide (hmz.out.trans hm6)
        clear hm6 hsm hi4 hi5
        go_wp2_with fail
        go_ret
        exact ⟨rfl, hmz.out⟩

theorem own : ownKnob Tryz.prog.godebug = none := by kernel_rfl

theorem laid_met (os : Os) : laidMet Tryz.prog Rows.daemonTwiceRow.laid ((World.laidAll Tryz.prog os Rows.daemonTwiceRow.laid).forCall (fun _ _ => 0) ⟨#[], #[.string ⟨#[]⟩, .slice none 0 0], []⟩).memory :=
  laidMet_laidAll _ (by kernel_rfl) (by kernel_rfl)
theorem reads (os : Os) {H : Type} (enc : TypeId × Value → H) : ∃ places, DataW.whole enc Tryz.prog ((World.laidAll Tryz.prog os Rows.daemonTwiceRow.laid).forCall (fun _ _ => 0) ⟨#[], #[.string ⟨#[]⟩, .slice none 0 0], []⟩).memory Tryz.f8.params.toList Rows.daemonTwiceSpec.vars false #[.string ⟨#[]⟩, .slice none 0 0].toList 8 = some ([.lit (.string []), .nil], [], places) :=
  ⟨[], by kernel_rfl⟩

set_option maxRecDepth 100000 in
theorem lifted (os : Os) (started : os.Started) (H : Type) (enc : TypeId × Value → H) (F : Stop.Interp) :
    ReturnsInHanded {} Tryz.checked os 8 .any ((OpenSpec.ofChange Rows.daemonTwiceSpec).preRow enc Tryz.prog Tryz.f8 Rows.daemonTwiceRow.domain false Rows.daemonTwiceRow.laid) (((OpenSpec.ofChange Rows.daemonTwiceSpec).at F).post enc Tryz.prog Tryz.f8 false true false false) := by
  obtain ⟨places, hx⟩ := reads os enc
  refine law_row (C := Tryz.checked) (bt := 4) own started (by kernel_rfl) Tryz.func8 (by kernel_rfl) (by kernel_rfl) (by kernel_rfl) Tryz.underlying4 rfl ?_ rfl
    (witness_row_atRef (enc := enc) (C := Tryz.checked) false (World.laidAll Tryz.prog os Rows.daemonTwiceRow.laid) #[.string ⟨#[]⟩, .slice none 0 0] (World.laidAll_os _ _ _) (by kernel_rfl) (by kernel_rfl) (by kernel_rfl)
      (OpenSpec.preRow_of_cond 8 hx (by kernel_rfl) (fun k hk => by cases hk) (by kernel_rfl) (laid_met os))) ?_
  · intro ds h
    match ds, h with
    | [d0, d1], _ => rfl
  · intro W base args ds ps hval0 hA0 hsz hL hsh
    have hval : ∀ (j : Nat) t v, Tryz.f8.params[j]? = some t → args[j]? = some v → Value.okWide Tryz.prog W .any base t v := hval0
    have hA : DataW.TrodAll enc Tryz.prog W 0 (fun _ => true) true Tryz.f8.params.toList args.toList ds ps := hA0
    have hLd := laidD_of (by simp [Rows.daemonTwiceRow]) (by simp [Rows.daemonTwiceRow]) (by simp [Rows.daemonTwiceRow]) (by simp [Rows.daemonTwiceRow]) hL
    rw [Tryz.params8] at hA hval
    obtain ⟨v0, v1, d0, d1, p0, p1, rfl, rfl, rfl, h0, h1⟩ := trodAll_two hA
    obtain ⟨l, rfl, wl⟩ := open_bs Tryz.underlying9 (hval 0 _ _ rfl rfl) h0
    obtain ⟨pl, cl, La, rfl, hacts, hcl⟩ := open_acts (hval 1 _ _ rfl rfl) h1
    exact walk l wl pl cl La hcl W hLd hacts

theorem and_i {a b : Bool} (h : a = true) (k : b = true) : (a && b) = true := by rw [h, k]; rfl
set_option maxRecDepth 100000 in
set_option maxHeartbeats 40000000 in
theorem joined : joinedFacts Tryz.pinned.checked.prog 8 Tryz.f8 (OpenSpec.ofChange Rows.daemonTwiceSpec).bare Rows.daemonTwiceRow = true := by
  unfold joinedFacts
  repeat' (with_reducible refine and_i ?_ ?_)
  all_goals (as_aux_lemma => kernel_rfl)
theorem inst : (Tryz.f8).isInstance Tryz.pinned.checked.prog Rows.daemonTwiceRow.origin Rows.daemonTwiceRow.targs := of_decide_eq_true (by kernel_rfl)
theorem wrap : (Tryz.f8).isWrapper Tryz.pinned.checked.prog Rows.daemonTwiceRow.wrapper Rows.daemonTwiceRow.mainSum := by
  unfold Func.isWrapper
  first | (rw [if_pos (by decide +kernel)]; kernel_rfl) | (rw [if_neg (by decide +kernel)]; exact ⟨rfl, rfl⟩)
theorem fname : Tryz.pinned.checked.prog.funcNamed Rows.daemonTwiceRow.func = some 8 := by kernel_rfl
theorem said : Rows.DaemonTwiceSaid :=
  OpenClaim.holds_of_cond 8 Tryz.f8 rfl rfl rfl rfl rfl rfl rfl ⟨rfl, rfl, rfl, rfl, rfl⟩ rfl rfl rfl rfl rfl fname Tryz.func8 joined inst wrap
    (fun os started H enc _ F => by rw [OpenClaim.pre_eq_preRow]; exact lifted os started H enc F)

theorem plain (f : FuncId) (fn : Func) (hf : Tryz.pinned.checked.prog.funcNamed "chronobate/chronobatelaw17.DaemonTwice" = some f) (hfn : Tryz.pinned.checked.prog.funcs[f]? = some fn) :
    true = Tryz.pinned.checked.prog.looks [] ∧ ∀ (j : Nat) t, fn.params[j]? = some t → Tryz.pinned.checked.prog.wantsStandIn t = false := by
  obtain rfl : f = 8 := Option.some.inj ((show Tryz.prog.funcNamed "chronobate/chronobatelaw17.DaemonTwice" = some 8 by kernel_rfl).symm.trans hf) |>.symm
  obtain rfl : fn = Tryz.f8 := (Option.some.inj (Tryz.func8.symm.trans hfn)).symm
  refine ⟨by kernel_rfl, fun j t ht => ?_⟩
  have hall : (Tryz.f8.params.toList.all fun t => !(Tryz.prog.wantsStandIn t)) = true := by kernel_rfl
  have := List.all_eq_true.1 hall t (Array.mem_toList_iff.2 (Array.mem_of_getElem? ht))
  have h2 : Tryz.prog.wantsStandIn t = false := by simpa using this
  exact h2

theorem proved : Rows.DaemonTwiceCardSaid :=
  Claim7.holds_tied_plain_at .later [] _ _ _ _ said (fun _ h => by cases h) (by kernel_rfl) (fun _ h => by cases h) daemonTwice_row_tie rfl ⟨rfl, rfl⟩ (by kernel_rfl) rfl plain (by kernel_rfl)
#print axioms proved
end Go.Proofs.YtkajhggdgpbfeaaGreatDoor.daemonTwice
