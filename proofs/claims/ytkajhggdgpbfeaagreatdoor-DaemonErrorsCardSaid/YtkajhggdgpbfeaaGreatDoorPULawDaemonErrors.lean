/- An event that may not be changes nothing. No condition. -/
import Derived.Test.YtkajhggdgpbfeaaGreatDoorPUbj
import Derived.Test.YtkajhggdgpbfeaaGreatDoorPUam
import Derived.Lay
namespace Go.Proofs.YtkajhggdgpbfeaaGreatDoor.daemonErrors
open Go.ChangeShapes Go.WideShapes Go.ChangeAt Go.RowKit Go.Proofs.YtkajhggdgpbfeaaGreatDoor
set_option linter.unusedVariables false

set_option maxRecDepth 100000 in
set_option maxHeartbeats 8000000 in
theorem walk (l : List UInt8) (hl : l.length ≤ 9223372036854775807) (p : Option Addr) (cap : Nat) (L : List ActS) (hLl : L.length ≤ 9223372036854775807) (n0 n1 n2 : Int) (h0 : I64 n0) (h1 : I64 n1) (h2 : I64 n2) (w : World) (hL : LaidD w) (hA : ActsAt w p L) :
    Calls Tryz.prog 7 #[.string (bs l), .slice p L.length cap, .agg #[.int .i64 n0, .int .i64 n1, .int .i64 n2]] w fun e w' => e = .returned (.bool true) ∧ Mod NoB w w' := by
  have hal := hide (fun wx (hm : Mod NoB w wx) => alive_any wx (hL.mod hm).n)
  have hgr := hide (fun wx (hm : Mod NoB w wx) => great_any p cap L hLl wx (hA.mod hm))
  have hnw := hide (fun wx (hm : Mod NoB w wx) => new_any l hl 0 0 wx (hL.mod hm).n)
  obtain ⟨n, hn⟩ : ∃ n, L.length = n := ⟨_, rfl⟩
  rw [hn] at hgr hLl ⊢
  replace hL := hide hL
  replace hA := hide hA
  replace hn := hide hn
  go_enter Tryz.func7, Tryz.ntmps7
  go_upto_region 1 with (fail)
  have hm1 : Mod NoB w (w.alloc (.cells #[.int .i64 n0, .int .i64 n1, .int .i64 n2] 71)) := (Mod.refl _ _).alloc _
  have hb1 := heap_alloc_new w (.cells #[.int .i64 n0, .int .i64 n1, .int .i64 n2] 71)
  generalize w.alloc (.cells #[.int .i64 n0, .int .i64 n1, .int .i64 n2] 71) = w1 at *
  replace hm1 := hide hm1
  replace hb1 := hide hb1
  by_cases h2l : 2000 < l.length
  · clear hgr hnw hb1
    go_wp2_with fail
    refine (hal.out _ hm1.out).mono ?_
    rintro e w8 ⟨rfl, hm8⟩
    replace hm1 := hide (hm1.out.trans hm8)
    clear hm8
    go_wp2_with fail
    go_ret
    exact ⟨rfl, hm1.out⟩
  go_wp2_with fail
  refine (hgr.out _ hm1.out).mono ?_
  rintro e w2 ⟨g, rfl, hg, hm2⟩
  have hb2 := hide (hm2.heap hb1.out id)
  replace hm1 := hide (hm1.out.trans hm2)
  clear hm2 hb1 hgr
  rcases hg with rfl | ⟨rfl, hn80⟩
  · clear hnw hb2
    go_wp2_with fail
    refine (hal.out _ hm1.out).mono ?_
    rintro e w8 ⟨rfl, hm8⟩
    replace hm1 := hide (hm1.out.trans hm8)
    clear hm8
    go_wp2_with fail
    go_ret
    exact ⟨rfl, hm1.out⟩
  replace hn80 := hide hn80
  go_wp2_with fail
  refine (hnw.out _ hm1.out).mono ?_
  rintro e w3 hp3
  have hm3 := hide (hm1.out.trans hp3.1)
  rcases hno : newOut l 0 0 with ⟨ln, er⟩ | c
  · obtain ⟨rfl, hm3'⟩ := new_none hp3 hno
    clear hp3 hm3' hb2
    replace hno := hide hno
    go_wp2_with fail
    refine (hnw.out _ hm3.out).mono ?_
    rintro e w4 hp4
    obtain ⟨rfl, hm4⟩ := new_none hp4 hno.out
    replace hm3 := hide (hm3.out.trans hm4)
    clear hp4 hm4 hnw
    have hne := newOut_no hno.out
    have heb : (er != 0) = true := by simpa using hne
    replace hne := hide hne
    go_wp2_with fail
    refine (hal.out _ hm3.out).mono ?_
    rintro e w8 ⟨rfl, hm8⟩
    replace hm3 := hide (hm3.out.trans hm8)
    clear hm8
    go_wp2_with fail
    go_ret
    exact ⟨by simp, hm3.out⟩
  · obtain ⟨P, rfl, ho3⟩ := One.new hp3 hno
    clear hp3
    replace hno := hide hno
    replace ho3 := hide ho3
    go_wp2_with fail
    refine (hnw.out _ hm3.out).mono ?_
    rintro e w4 hp4
    obtain ⟨P', rfl, ht4⟩ := Two.new ho3.out hp4 hno.out
    replace hm3 := hide (hm3.out.trans hp4.1)
    clear hp4 ho3 hnw
    replace ht4 := hide ht4
    go_wp2_with fail
    go_loopw [70, 13, 14] (fun s70 s13 s14 wr => ∃ (k dr : Nat) (Q Q' : DPl) (d : DaemonS), s70 = .int .i64 k ∧ s13 = .int .u64 dr ∧ s14 = .int .i64 d.h ∧ k ≤ n ∧ dr < 18446744073709551616 ∧ Q.b = P.b ∧ Q'.b = P'.b ∧ d.Ok ∧ d.Cnt (8 * k) ∧ Two w2 Q Q' d d wr) (fun s70 _ _ wr => n - (match s70 with | .int _ i => i.toNat | _ => 0))
    case atStart => exact ⟨0, 0, P, P', newS c 0 0, rfl, rfl, rfl, Nat.zero_le _, by decide, rfl, rfl, (newS_ok (newOut_yes hno.out).2.2.1 (newOut_yes hno.out).2.2.2).1, (newS_ok (newOut_yes hno.out).2.2.1 (newOut_yes hno.out).2.2.2).2, ht4.out⟩
    case round =>
      obtain ⟨k, dr, Q, Q', d, rfl, rfl, rfl, hk, hdr, hq, hq', hok, hcn, ht⟩ := hrel
      have hb4 := hide (ht.old.heap hb2.out id)
      replace hq := hide hq
      replace hq' := hide hq'
      replace hok := hide hok
      replace hcn := hide hcn
      replace hdr := hide hdr
      by_cases hkn : k < n
      · obtain ⟨x, hx⟩ : ∃ x, L[k]? = some x := ⟨L[k]'(by rw [hn.out]; exact hkn), List.getElem?_eq_getElem (by rw [hn.out]; exact hkn)⟩
        obtain ⟨g, off, rfl, hglt, hat⟩ := hA.out k x hx
        obtain ⟨⟨dp, dc, c0, c1, c2, c3, c4, c5, hda, hdl⟩, ik, ih, ia, id'⟩ := hat
        have hmr := hm1.out.trans ht.old
        replace c0 := hmr.cellAt id c0
        replace c1 := hmr.cellAt id c1
        replace c2 := hmr.cellAt id c2
        replace c3 := hmr.cellAt id c3
        replace c4 := hmr.cellAt id c4
        replace c5 := hmr.cellAt id c5
        replace hda := hda.mod hmr
        replace hglt := Nat.lt_of_lt_of_le hglt hmr.size
        replace hdl : ∀ bd off, dp = some ⟨bd, off, none⟩ → 0 < x.e.data.length → bd < w2.heap.size := fun bd off a b => Nat.lt_of_lt_of_le (hdl bd off a b) hm1.out.size
        replace hdl := hide hdl
        clear hmr
        replace ht := hide ht
        replace hda := hide hda
        replace hx := hide hx
        have hki : (k : Int) < n := by omega
        clear hm3
        go_upto_region 11 with (fail)
        have hw5 := heap_alloc_new wr (.cells #[.int .i64 x.e.kind, .int .i64 x.e.h, .int .i64 x.e.addr, .int .u64 (x.e.draw : Int), .slice dp x.e.data.length dc, .bool x.good] 35)
        have hq5 : Mod NoB wr (wr.alloc (.cells #[.int .i64 x.e.kind, .int .i64 x.e.h, .int .i64 x.e.addr, .int .u64 (x.e.draw : Int), .slice dp x.e.data.length dc, .bool x.good] 35)) := (Mod.refl _ _).alloc _
        generalize wr.alloc (.cells #[.int .i64 x.e.kind, .int .i64 x.e.h, .int .i64 x.e.addr, .int .u64 (x.e.draw : Int), .slice dp x.e.data.length dc, .bool x.good] 35) = w5 at *
        replace hda := hide (hda.out.mod hq5)
        replace hb4 := hide (hq5.heap hb4.out id)
        replace ht := hide (ht.out.quiet hq5)
        clear hq5 c0 c1 c2 c3 c4 c5
        have c0 := cell_of_block hw5 0 (v := .int .i64 x.e.kind) rfl
        have c1 := cell_of_block hw5 1 (v := .int .i64 x.e.h) rfl
        have c2 := cell_of_block hw5 2 (v := .int .i64 x.e.addr) rfl
        have c3 := cell_of_block hw5 3 (v := .int .u64 (x.e.draw : Int)) rfl
        have c4 := cell_of_block hw5 4 (v := .slice dp x.e.data.length dc) rfl
        have c5 := cell_of_block hw5 5 (v := .bool x.good) rfl
        replace hw5 := hide hw5
        have hev := hide (event_any x dp dc dr hdr.out id' w5 hda.out)
        go_wp2_with fail
        refine hev.out.mono ?_
        rintro e w6 ⟨dp', dc', rfl, hda6, hap6, hm6⟩
        clear hev c0 c1 c2 c3 c4 c5 hw5
        obtain ⟨z, hz⟩ : ∃ z, evOf x dr = z := ⟨_, rfl⟩
        rw [hz] at hda6 hap6 ⊢
        replace hb4 := hide (hm6.heap hb4.out id)
        have hap := hide (ev_apart (w := w5) (l' := z.data) (dp' := dp') ht.out.left (dp := dp) (l := x.e.data) hdl.out hap6)
        have hap' := hide (ev_apart (w := w5) (l' := z.data) (dp' := dp') ht.out.right (dp := dp) (l := x.e.data) hdl.out hap6)
        replace ht := hide (ht.out.quiet hm6)
        replace hda6 := hide hda6
        replace hz := hide hz
        clear hm6 hap6 hda
        go_upto_region 12 with (fail)
        have hEn : ¬ fpD Q w6.heap.size := fun x => Nat.lt_irrefl _ (ht.out.d.lt _ x)
        have hEm : ¬ fpD Q' w6.heap.size := fun x => Nat.lt_irrefl _ (ht.out.m.lt _ x)
        have hw7 := heap_alloc_new w6 (.cells #[.int .i64 z.kind, .int .i64 z.h, .int .i64 z.addr, .int .u64 (z.draw : Int), .slice dp' z.data.length dc'] 33)
        have hq7 : Mod NoB w6 (w6.alloc (.cells #[.int .i64 z.kind, .int .i64 z.h, .int .i64 z.addr, .int .u64 (z.draw : Int), .slice dp' z.data.length dc'] 33)) := (Mod.refl _ _).alloc _
        generalize w6.alloc (.cells #[.int .i64 z.kind, .int .i64 z.h, .int .i64 z.addr, .int .u64 (z.draw : Int), .slice dp' z.data.length dc'] 33) = w7 at *
        replace hda6 := hide (hda6.out.mod hq7)
        replace hb4 := hide (hq7.heap hb4.out id)
        replace ht := hide (ht.out.quiet hq7)
        obtain ⟨bE, hbE⟩ : ∃ bE, w6.heap.size = bE := ⟨_, rfl⟩
        rw [hbE] at hw7 hEn hEm ⊢
        replace hEn := hide hEn
        replace hEm := hide hEm
        clear hq7
        have c4 := cell_of_block hw7 4 (v := .slice dp' z.data.length dc') rfl
        have y0 := cell_of_block hb4.out 0 (v := .int .i64 n0) rfl
        have y1 := cell_of_block hb4.out 1 (v := .int .i64 n1) rfl
        have y2 := cell_of_block hb4.out 2 (v := .int .i64 n2) rfl
        replace hw7 := hide hw7
        go_upto_region 13 with (fail)
        have hqb : Mod NoB w7 (w7.alloc (.cells (badCells n0 n1 n2 dp' z.data.length dc').toArray 33)) := (Mod.refl _ _).alloc _
        have hbb := heap_alloc_new w7 (.cells (badCells n0 n1 n2 dp' z.data.length dc').toArray 33)
        change (w7.alloc (.cells #[.int .i64 2, .int .i64 (max 0 n0), .int .i64 0, .int .u64 0, .slice none 0 0, .int .i64 0, .int .i64 (min (-1) n1), .int .i64 0, .int .u64 7, .slice none 0 0, .int .i64 1, .int .i64 (max 4611686018427387904 n2), .int .i64 0, .int .u64 0, .slice dp' z.data.length dc'] 33)).heap[w7.heap.size]? = _ at hbb
        change Mod NoB w7 (w7.alloc (.cells #[.int .i64 2, .int .i64 (max 0 n0), .int .i64 0, .int .u64 0, .slice none 0 0, .int .i64 0, .int .i64 (min (-1) n1), .int .i64 0, .int .u64 7, .slice none 0 0, .int .i64 1, .int .i64 (max 4611686018427387904 n2), .int .i64 0, .int .u64 0, .slice dp' z.data.length dc'] 33)) at hqb
        generalize w7.alloc (.cells #[.int .i64 2, .int .i64 (max 0 n0), .int .i64 0, .int .u64 0, .slice none 0 0, .int .i64 0, .int .i64 (min (-1) n1), .int .i64 0, .int .u64 7, .slice none 0 0, .int .i64 1, .int .i64 (max 4611686018427387904 n2), .int .i64 0, .int .u64 0, .slice dp' z.data.length dc'] 33) = w8 at *
        obtain ⟨bB, hbB⟩ : ∃ bB, w7.heap.size = bB := ⟨_, rfl⟩
        rw [hbB] at hbb ⊢
        clear c4 y0 y1 y2
        replace hqb := hide hqb
        replace hbb := hide hbb
        replace hbB := hide hbB
        replace hbE := hide hbE
        go_upto_if 93 with (fail)
        go_cut [18] (fun s18 wx => ∃ (gB m cB : Nat), s18 = .slice (some ⟨gB, 0, none⟩) m cB ∧ m ≤ 4 ∧ BadAt wx d (fpD Q) gB m ∧ w7.heap.size ≤ gB ∧ Mod NoB w7 wx)
        case first =>
          by_cases hd0 : 0 < d.h
          · have hdb : decide (0 < d.h) = true := by simp; omega
            have hdw : IntKind.i64.wrap (d.h - 1) = d.h - 1 := wrap_in ⟨by omega, by have := hok.out.h1; omega⟩
            have hro : w8.ownsRow bB 33 5 (.slice (some ⟨bB, 0, none⟩) 3 3) 3 (badCells n0 n1 n2 dp' z.data.length dc') := ⟨rfl, Or.inr ⟨bB, 3, _, rfl, Nat.le_refl _, hbb.out, Nat.le_refl _, by decide, rfl, rfl⟩⟩
            have hlb := lt_of_block hbb.out
            obtain ⟨i0, hi, hz0, hz1, hz2⟩ := info_parts infoEv
            replace hi := hide hi
            replace hz0 := hide hz0
            replace hz1 := hide hz1
            replace hz2 := hide hz2
            replace hro := hide hro
            go_wp2_with (at_builtin; refine wpList_append_own_at _ rfl (.tmp 94) (.tmp 98) 72 rfl bB 33 i0 (.agg #[.int .i64 0, .int .i64 0, .int .i64 0, .int .u64 0, .slice none 0 0]) 5 56 Tryz.underlying72 hi.out hz0.out hz1.out hz2.out rfl (by decide) (.slice (some ⟨bB, 0, none⟩) 3 3) 3 _ rfl (ownsRow_mod2 (S := NoB) hro.out ((Mod.refl _ _).alloc _) (fun _ _ f => f.elim)) ⟨w8.heap.size, 0, none⟩ 1 1 [.int .i64 0, .int .i64 (d.h - 1), .int .i64 0, .int .u64 9, .slice none 0 0] rfl rfl ?c1 ?c2 ?c3 ?c4 ?c5 ?_)
            case c1 => exact cells5_new _ _ _ _ _ _ _
            case c2 => simp [Value.oneCell']
            case c3 => decide
            case c4 => decide
            case c5 => have := hlb; simp; omega
            intro v' wz hown' hgrow _ hat
            have hmz := Mod.grownS (S := fun k => k = bB) ((Mod.refl _ _).alloc _) hgrow (fun k e => by cases e; rfl)
            replace hmz := hqb.out.into hmz (fun k hk => Or.inr (by rw [hk, ← hbB.out]; exact Nat.le_refl _))
            obtain ⟨gz, cz, rfl, hgz, hcz⟩ := row_at5 hown' (by decide)
            replace hown' := hide hown'
            replace hmz := hide hmz
            replace hcz := hide hcz
            clear hgrow hat
            go_wp2_with fail
            go_meet
            exact ⟨gz, _, cz, rfl, by decide, bad_row h0 h1 h2 (hda6.out.mod hmz.out) hap.out (rest := [.int .i64 0, .int .i64 (d.h - 1), .int .i64 0, .int .u64 9, .slice none 0 0]) hcz.out (Or.inr ⟨rfl, rfl, hd0, hok.out.h1⟩), by rw [hbB.out]; exact hgz, hmz.out⟩
          · have hdb : decide (0 < d.h) = false := by simp; omega
            replace hd0 := hide hd0
            go_wp2_with fail
            go_meet
            exact ⟨_, _, _, rfl, by decide, bad_row h0 h1 h2 (hda6.out.mod hqb.out) hap.out (rest := []) (fun i v hv => cell_of_block hbb.out i (by simpa using hv)) (Or.inl ⟨rfl, rfl⟩), Nat.le_of_eq hbB.out, hqb.out⟩
        case rest =>
          obtain ⟨gB, m, cB, rfl, hmc, hbad, hgB, hmw⟩ := hcut
          replace hda6 := hide (hda6.out.mod hmw)
          replace hw7 := hide (hmw.heap hw7.out id)
          replace hb4 := hide (hmw.heap hb4.out id)
          have hgn : ¬ fpD Q gB := fun x => Nat.lt_irrefl _ (Nat.lt_of_lt_of_le (ht.out.d.lt _ x) hgB)
          replace ht := hide (ht.out.quiet hmw)
          clear hmw hqb hbb hbB hgB
          replace hgn := hide hgn
          replace hbad := hide hbad
          replace hmc := hide hmc
          go_wp2_with fail
          go_loopw [102] (fun s102 wx => ∃ (j : Nat) (Q1 : DPl), s102 = .int .i64 j ∧ j ≤ m ∧ DTo Q Q1 wc wx ∧ Two w2 Q1 Q' d d wx) (fun s102 wx => m - (match s102 with | .int _ i => i.toNat | _ => 0))
          case atStart => exact ⟨0, Q, rfl, Nat.zero_le _, DTo.refl _ _, ht.out⟩
          case round =>
            obtain ⟨j, Q1, rfl, hj, hto, ht1⟩ := hrel
            have hbx := hbad.out.apart hto.m hgn.out
            replace hto := hide hto
            replace ht1 := hide ht1
            by_cases hjm : j < m
            · obtain ⟨e, ep, ec, c0, c1, c2, c3, c4, hde, ie1, ie2, ie3, ie4, hee, hea⟩ := hbx j hjm
              have hji : (j : Int) < m := by omega
              replace hee := hide hee
              replace hea := hide hea
              replace hde := hide hde
              have hmj := hide hjm
              clear hbx hj hjm
              go_upto_region 18 with (fail)
              have hwa := heap_alloc_new wr (.cells #[.int .i64 e.kind, .int .i64 e.h, .int .i64 e.addr, .int .u64 (e.draw : Int), .slice ep e.data.length ec] 33)
              have hqa : Mod NoB wr (wr.alloc (.cells #[.int .i64 e.kind, .int .i64 e.h, .int .i64 e.addr, .int .u64 (e.draw : Int), .slice ep e.data.length ec] 33)) := (Mod.refl _ _).alloc _
              generalize wr.alloc (.cells #[.int .i64 e.kind, .int .i64 e.h, .int .i64 e.addr, .int .u64 (e.draw : Int), .slice ep e.data.length ec] 33) = wa at *
              replace hde := hide (hde.out.mod hqa)
              replace ht1 := hide (ht1.out.quiet hqa)
              replace hto := hide (hto.out.thenQ hqa)
              clear hqa c0 c1 c2 c3 c4
              have c0 := cell_of_block hwa 0 (v := .int .i64 e.kind) rfl
              have c1 := cell_of_block hwa 1 (v := .int .i64 e.h) rfl
              have c2 := cell_of_block hwa 2 (v := .int .i64 e.addr) rfl
              have c3 := cell_of_block hwa 3 (v := .int .u64 (e.draw : Int)) rfl
              have c4 := cell_of_block hwa 4 (v := .slice ep e.data.length ec) rfl
              replace hwa := hide hwa
              have hQb : Q1.b = P.b := hto.out.b.trans hq.out
              have hdo := do_any Q1 d hok.out hcn.out (by have := hn80.out; omega) e.kind e.h e.addr ie1 ie2 e.draw ie4 ep e.data.length ec e.data wa ht1.out.d hde.out (fun bd off hb h0 he => hea.out bd off hb h0 (by rw [he, hto.out.b]; exact fpD.b))
              rw [hQb, doS_err (e := ⟨e.kind, e.h, e.addr, e.draw, e.data⟩) hee.out, show out0 = ⟨[], 0, 0, 0⟩ from rfl] at hdo
              obtain ⟨er, her⟩ : ∃ er, errS d ⟨e.kind, e.h, e.addr, e.draw, e.data⟩ = er := ⟨_, rfl⟩
              rw [her] at hdo
              have heb : (er == 0) = false := by have h := hee.out; rw [show errS d e = er from her] at h; simpa using h
              replace her := hide her
              replace hdo := hide hdo
              replace hQb := hide hQb
              go_wp2_with fail
              refine hdo.out.mono ?_
              rintro _ wb ⟨v, Q2, rfl, hd2, hto2, hs2⟩
              obtain ⟨p9, c9, hv9⟩ := hs2.slice
              obtain rfl : v = .slice p9 0 c9 := hv9
              replace ht1 := hide (ht1.out.stepL hd2 hto2)
              replace hto := hide (hto.out.trans hto2)
              clear hdo hd2 hto2 hs2 c0 c1 c2 c3 c4 hwa hde
              go_upto_region 19 with (fail)
              have hwo := heap_alloc_new wb (.cells #[.slice p9 0 c9, .int .i64 0, .int .i64 0, .int .i64 0] 39)
              have hqo : Mod NoB wb (wb.alloc (.cells #[.slice p9 0 c9, .int .i64 0, .int .i64 0, .int .i64 0] 39)) := (Mod.refl _ _).alloc _
              generalize wb.alloc (.cells #[.slice p9 0 c9, .int .i64 0, .int .i64 0, .int .i64 0] 39) = wo at *
              replace ht1 := hide (ht1.out.quiet hqo)
              replace hto := hide (hto.out.thenQ hqo)
              clear hqo
              have c0 := cell_of_block hwo 0 (v := .slice p9 0 c9) rfl
              have c1 := cell_of_block hwo 1 (v := .int .i64 0) rfl
              have c2 := cell_of_block hwo 2 (v := .int .i64 0) rfl
              have c3 := cell_of_block hwo 3 (v := .int .i64 0) rfl
              replace hwo := hide hwo
              go_wp2_with fail
              go_roundw
              case rel => exact ⟨j + 1, Q2, by exact congrArg (Value.int .i64) (IntWalk.wrap64_in _ (by have := hmc.out; have := hmj.out; omega)), hmj.out, hto.out, ht1.out⟩
              case measure =>
                show m - (wrap64 ((j : Int) + 1)).toNat < m - (j : Int).toNat
                rw [IntWalk.wrap64_in _ (by have := hmc.out; have := hmj.out; omega)]
                have := hmj.out
                omega
            · have hje : j = m := by omega
              subst hje
              have hji : ¬ ((j : Int) < j) := by omega
              clear hbx
              obtain ⟨hw7r, hEr⟩ := hto.out.block hw7.out hEn.out
              obtain ⟨hda7, hapr⟩ := hto.out.data hda6.out hap.out
              have hap1 : ∀ bd off, dp' = some ⟨bd, off, none⟩ → 0 < z.data.length → ¬ bd = Q1.b := fun bd off a b e => hapr bd off a b (e ▸ fpD.b)
              have hap2 : ∀ bd off, dp' = some ⟨bd, off, none⟩ → 0 < z.data.length → ¬ bd = Q'.b := fun bd off a b e => hap'.out bd off a b (e ▸ fpD.b)
              obtain ⟨iz1, iz2, iz3, iz4⟩ := evOf_in ik ih ia id' dr
              rw [hz.out] at iz1 iz2 iz3 iz4
              have x0 := cell_of_block hw7r 0 (v := .int .i64 z.kind) rfl
              have x1 := cell_of_block hw7r 1 (v := .int .i64 z.h) rfl
              have x2 := cell_of_block hw7r 2 (v := .int .i64 z.addr) rfl
              have x3 := cell_of_block hw7r 3 (v := .int .u64 (z.draw : Int)) rfl
              have x4 := cell_of_block hw7r 4 (v := .slice dp' z.data.length dc') rfl
              replace hw7r := hide hw7r
              replace hw7 := hide hw7
              have hN8 : (8 * (k : Int)) ≤ 9007199254740992 := by have := hn80.out; omega
              have hdo := do_any Q1 d hok.out hcn.out hN8 z.kind z.h z.addr iz1 iz2 z.draw iz4 dp' z.data.length dc' z.data wr ht1.out.d hda7 hap1
              have hQb : Q1.b = P.b := hto.out.b.trans hq.out
              obtain ⟨hsk, hs16⟩ := do_sendsOk hok.out z
              obtain ⟨hok2, hcn2⟩ := hok.out.do (e := z) iz4 hcn.out hN8
              have hdh : errS d z = 0 → (doS d z).1.h = z.h := doS_h
              have hed := doS_err (d := d) (e := z)
              change Calls _ _ _ _ (DoPost Q1 (doS d z).1 (doS d z).2 (errS d z) wr) at hdo
              have hdo2 := hide (fun wx (hx : DO wx Q' d) (hy : DataAt wx (.slice dp' z.data.length dc') z.data) => do_any Q' d hok.out hcn.out hN8 z.kind z.h z.addr iz1 iz2 z.draw iz4 dp' z.data.length dc' z.data wx hx hy hap2)
              change Hid (∀ wx, DO wx Q' d → DataAt wx (.slice dp' z.data.length dc') z.data → Calls _ _ _ _ (DoPost Q' (doS d z).1 (doS d z).2 (errS d z) wx)) at hdo2
              have her10 := err_in d z
              obtain ⟨er, her⟩ : ∃ er, errS d z = er := ⟨_, rfl⟩
              obtain ⟨d', hd'⟩ : ∃ d', (doS d z).1 = d' := ⟨_, rfl⟩
              obtain ⟨O, hO⟩ : ∃ O, (doS d z).2 = O := ⟨_, rfl⟩
              rw [her, hd', hO, hQb] at hdo
              rw [her, hd', hO, hq'.out] at hdo2
              rw [hO] at hsk hs16
              rw [hd'] at hok2 hcn2 hdh
              rw [her] at hdh hed her10
              replace hed := hide hed
              replace her := hide her
              replace hd' := hide hd'
              replace hO := hide hO
              replace hdo := hide hdo
              replace hsk := hide hsk
              replace hok2 := hide hok2
              replace hcn2 := hide hcn2
              replace hdh := hide hdh
              replace hda7 := hide hda7
              replace hap1 := hide hap1
              replace hap2 := hide hap2
              replace hQb := hide hQb
              go_wp2_with fail
              refine hdo.out.mono ?_
              rintro _ wb ⟨v, Q2, rfl, hd2, hto2, hs2⟩
              obtain ⟨p9, c9, hv9⟩ := hs2.slice
              subst hv9
              have hf1 := ht1.out.m.lt
              have hb2 : Q2.b = P.b := hto2.b.trans hQb.out
              have ht2 := ht1.out.stepL hd2 hto2
              have hda8 := (hto2.data hda7.out hapr).1
              have hw7b := (hto2.block hw7r.out hEr).1
              clear hdo x0 x1 x2 x3 x4 hto ht1 hd2 hto2 hw7r hw7 hda7 hda6 hbad
              go_upto_region 23 with (fail)
              have hwo := heap_alloc_new wb (.cells #[.slice p9 O.sends.length c9, .int .i64 O.clock, .int .i64 O.wake, .int .i64 O.reason] 39)
              have hqo : Mod NoB wb (wb.alloc (.cells #[.slice p9 O.sends.length c9, .int .i64 O.clock, .int .i64 O.wake, .int .i64 O.reason] 39)) := (Mod.refl _ _).alloc _
              generalize wb.alloc (.cells #[.slice p9 O.sends.length c9, .int .i64 O.clock, .int .i64 O.wake, .int .i64 O.reason] 39) = wo at *
              obtain ⟨bo, hbo⟩ : ∃ bo, wb.heap.size = bo := ⟨_, rfl⟩
              rw [hbo] at hwo ⊢
              have hno : ¬ fpD Q' bo := fun x => by have := ht2.m.lt _ x; omega
              replace ht2 := ht2.quiet hqo
              replace hda8 := hda8.mod hqo
              replace hw7b := hqo.heap hw7b id
              replace hs2 := hs2.mod hqo (fun _ _ => id)
              have hdo3 := hdo2.out wo ht2.m hda8
              have x0 := cell_of_block hw7b 0 (v := .int .i64 z.kind) rfl
              have x1 := cell_of_block hw7b 1 (v := .int .i64 z.h) rfl
              have x2 := cell_of_block hw7b 2 (v := .int .i64 z.addr) rfl
              have x3 := cell_of_block hw7b 3 (v := .int .u64 (z.draw : Int)) rfl
              have x4 := cell_of_block hw7b 4 (v := .slice dp' z.data.length dc') rfl
              replace hdo3 := hide hdo3
              replace ht2 := hide ht2
              replace hda8 := hide hda8
              replace hw7b := hide hw7b
              replace hs2 := hide hs2
              replace hwo := hide hwo
              replace hno := hide hno
              replace hbo := hide hbo
              replace hf1 := hide hf1
              clear hqo hdo2
              go_wp2_with fail
              refine hdo3.out.mono ?_
              rintro _ wd ⟨v, Q3, rfl, hd3, hto3, hs3⟩
              obtain ⟨p8, c8, hv8⟩ := hs3.slice
              subst hv8
              have ht3 := ht2.out.stepR hd3 hto3
              have hs4 := hto3.sends hs2.out hf1.out
              have hb3 : Q3.b = P'.b := hto3.b.trans hq'.out
              have hwo3 := (hto3.block hwo.out hno.out).1
              have hw7d := (hto3.block hw7b.out hEm.out).1
              clear hdo3 x0 x1 x2 x3 x4 ht2 hd3 hda8 hw7b hs2 hwo hto3
              go_upto_region 24 with (fail)
              have hwp := heap_alloc_new wd (.cells #[.slice p8 O.sends.length c8, .int .i64 O.clock, .int .i64 O.wake, .int .i64 O.reason] 39)
              have hqp : Mod NoB wd (wd.alloc (.cells #[.slice p8 O.sends.length c8, .int .i64 O.clock, .int .i64 O.wake, .int .i64 O.reason] 39)) := (Mod.refl _ _).alloc _
              generalize wd.alloc (.cells #[.slice p8 O.sends.length c8, .int .i64 O.clock, .int .i64 O.wake, .int .i64 O.reason] 39) = we at *
              replace ht3 := ht3.quiet hqp
              replace hs3 := hs3.mod hqp (fun _ _ => id)
              replace hs4 := hs4.mod hqp (fun _ _ => id)
              replace hwo3 := hqp.heap hwo3 id
              replace hw7d := hqp.heap hw7d id
              have y0 := cell_of_block hwo3 0 (v := .slice p9 O.sends.length c9) rfl
              have y1 := cell_of_block hwo3 1 (v := .int .i64 O.clock) rfl
              have y2 := cell_of_block hwo3 2 (v := .int .i64 O.wake) rfl
              have y3 := cell_of_block hwo3 3 (v := .int .i64 O.reason) rfl
              have z0 := cell_of_block hwp 0 (v := .slice p8 O.sends.length c8) rfl
              have z1 := cell_of_block hwp 1 (v := .int .i64 O.clock) rfl
              have z2 := cell_of_block hwp 2 (v := .int .i64 O.wake) rfl
              have z3 := cell_of_block hwp 3 (v := .int .i64 O.reason) rfl
              have hsm := hide (same_out _ _ O.sends O.clock O.wake O.reason _ _ we hs4 hs3 hsk.out (Nat.le_trans hs16 (by decide)))
              have hcd := hide (fun wx (hm : Mod NoB w wx) (hx : DO wx Q2 d') => dcounts_any Q2 d' hok2.out.n (hok2.out.cnts hcn2.out (by have := hn80.out; omega)) wx hx (hL.out.mod hm).c)
              have hcm := hide (fun wx (hm : Mod NoB w wx) (hx : DO wx Q3 d') => dcounts_any Q3 d' hok2.out.n (hok2.out.cnts hcn2.out (by have := hn80.out; omega)) wx hx (hL.out.mod hm).c)
              rw [hb2] at hcd
              rw [hb3] at hcm
              replace ht3 := hide ht3
              replace hw7d := hide hw7d
              clear hqp hs3 hs4 hwo3 hwp
              go_wp2_with fail
              refine hsm.out.mono ?_
              rintro _ wf ⟨rfl, hmf⟩
              replace ht3 := hide (ht3.out.quiet hmf)
              replace hw7d := hide (hmf.heap hw7d.out id)
              clear hmf hsm y0 y1 y2 y3 z0 z1 z2 z3
              go_wp2_with fail
              refine (hcd.out wf (hm1.out.trans ht3.out.old) ht3.out.d).mono ?_
              rintro _ wg ⟨rfl, hmg⟩
              replace ht3 := hide (ht3.out.quiet hmg)
              replace hw7d := hide (hmg.heap hw7d.out id)
              clear hmg hcd
              go_wp2_with fail
              refine (hcm.out wg (hm1.out.trans ht3.out.old) ht3.out.m).mono ?_
              rintro _ wh ⟨rfl, hmh⟩
              replace ht3 := hide (ht3.out.quiet hmh)
              replace hw7d := hmh.heap hw7d.out id
              clear hmh hcm
              have x0 := cell_of_block hw7d 0 (v := .int .i64 z.kind) rfl
              have x1 := cell_of_block hw7d 1 (v := .int .i64 z.h) rfl
              have x3 := cell_of_block hw7d 3 (v := .int .u64 (z.draw : Int)) rfl
              replace hw7d := hide hw7d
              by_cases h0 : er = 0
              · have hdz := hdh.out h0
                subst h0
                by_cases hk0 : z.kind = 0
                · by_cases hd0 : z.draw = 0
                  · have hb0 : ((z.draw : Int) != 0) = false := by simp [hd0]
                    go_wp2_with fail
                    go_roundw
                    case rel => exact ⟨k + 1, dr, Q2, Q3, d', rfl, rfl, by rw [hdz], hkn, hdr.out, hb2, hb3, hok2.out, hcn2.out.mono (by omega), ht3.out⟩
                    case measure =>
                      show n - ((k : Int) + 1).toNat < n - (k : Int).toNat
                      omega
                  · have hb0 : ((z.draw : Int) != 0) = true := by simpa using hd0
                    go_wp2_with fail
                    go_roundw
                    case rel => exact ⟨k + 1, z.draw, Q2, Q3, d', rfl, rfl, by rw [hdz], hkn, iz4, hb2, hb3, hok2.out, hcn2.out.mono (by omega), ht3.out⟩
                    case measure =>
                      show n - ((k : Int) + 1).toNat < n - (k : Int).toNat
                      omega
                · have hb0 : (z.kind == 0) = false := by simpa using hk0
                  go_wp2_with fail
                  go_roundw
                  case rel => exact ⟨k + 1, dr, Q2, Q3, d', rfl, rfl, by rw [hdz], hkn, hdr.out, hb2, hb3, hok2.out, hcn2.out.mono (by omega), ht3.out⟩
                  case measure =>
                    show n - ((k : Int) + 1).toNat < n - (k : Int).toNat
                    omega
              · have hb0 : (er == 0) = false := by simpa using h0
                have hdd : d' = d := by rw [← hd'.out, hed.out h0]
                replace hdd := hide hdd
                go_wp2_with fail
                go_roundw
                case rel => exact ⟨k + 1, dr, Q2, Q3, d', rfl, rfl, by rw [hdd.out], hkn, hdr.out, hb2, hb3, hok2.out, hcn2.out.mono (by omega), ht3.out⟩
                case measure =>
                  show n - ((k : Int) + 1).toNat < n - (k : Int).toNat
                  omega
      · have hkf : ¬ ((k : Int) < n) := by omega
        have hmz := hide (hm1.out.trans ht.old)
        go_wp2_with fail
        refine (hal.out _ hmz.out).mono ?_
        rintro e w8 ⟨rfl, hm8⟩
        replace hmz := hide (hmz.out.trans hm8)
        clear hm8
        go_wp2_with fail
        go_ret
        exact ⟨rfl, hmz.out⟩

theorem own : ownKnob Tryz.prog.godebug = none := by kernel_rfl

theorem laid_met (os : Os) : laidMet Tryz.prog Rows.daemonErrorsRow.laid ((World.laidAll Tryz.prog os Rows.daemonErrorsRow.laid).forCall (fun _ _ => 0) ⟨#[], #[.string ⟨#[]⟩, .slice none 0 0, .agg #[.int .i64 0, .int .i64 0, .int .i64 0]], []⟩).memory :=
  laidMet_laidAll _ (by kernel_rfl) (by kernel_rfl)
theorem reads (os : Os) {H : Type} (enc : TypeId × Value → H) : ∃ places, DataW.whole enc Tryz.prog ((World.laidAll Tryz.prog os Rows.daemonErrorsRow.laid).forCall (fun _ _ => 0) ⟨#[], #[.string ⟨#[]⟩, .slice none 0 0, .agg #[.int .i64 0, .int .i64 0, .int .i64 0]], []⟩).memory Tryz.f7.params.toList Rows.daemonErrorsSpec.vars false #[.string ⟨#[]⟩, .slice none 0 0, .agg #[.int .i64 0, .int .i64 0, .int .i64 0]].toList 8 = some ([.lit (.string []), .nil, .agg [.lit (.int .i64 0), .lit (.int .i64 0), .lit (.int .i64 0)]], [], places) :=
  ⟨[], by kernel_rfl⟩

set_option maxRecDepth 100000 in
theorem lifted (os : Os) (started : os.Started) (H : Type) (enc : TypeId × Value → H) (F : Stop.Interp) :
    ReturnsInHanded {} Tryz.checked os 7 .any ((OpenSpec.ofChange Rows.daemonErrorsSpec).preRow enc Tryz.prog Tryz.f7 Rows.daemonErrorsRow.domain false Rows.daemonErrorsRow.laid) (((OpenSpec.ofChange Rows.daemonErrorsSpec).at F).post enc Tryz.prog Tryz.f7 false true false false) := by
  obtain ⟨places, hx⟩ := reads os enc
  refine law_row (C := Tryz.checked) (bt := 4) own started (by kernel_rfl) Tryz.func7 (by kernel_rfl) (by kernel_rfl) (by kernel_rfl) Tryz.underlying4 rfl ?_ rfl
    (witness_row_atRef (enc := enc) (C := Tryz.checked) false (World.laidAll Tryz.prog os Rows.daemonErrorsRow.laid) #[.string ⟨#[]⟩, .slice none 0 0, .agg #[.int .i64 0, .int .i64 0, .int .i64 0]] (World.laidAll_os _ _ _) (by kernel_rfl) (by kernel_rfl) (by kernel_rfl)
      (OpenSpec.preRow_of_cond 8 hx (by kernel_rfl) (fun k hk => by cases hk) (by kernel_rfl) (laid_met os))) ?_
  · intro ds h
    match ds, h with
    | [d0, d1, d2], _ => rfl
  · intro W base args ds ps hval0 hA0 hsz hL hsh
    have hval : ∀ (j : Nat) t v, Tryz.f7.params[j]? = some t → args[j]? = some v → Value.okWide Tryz.prog W .any base t v := hval0
    have hA : DataW.TrodAll enc Tryz.prog W 0 (fun _ => true) true Tryz.f7.params.toList args.toList ds ps := hA0
    have hLd := laidD_of (by simp [Rows.daemonErrorsRow]) (by simp [Rows.daemonErrorsRow]) (by simp [Rows.daemonErrorsRow]) (by simp [Rows.daemonErrorsRow]) hL
    rw [Tryz.params7] at hA hval
    obtain ⟨v0, v1, v2, d0, d1, d2, p0, p1, p2, rfl, rfl, rfl, h0, h1, h2⟩ := trodAll_three hA
    obtain ⟨l, rfl, wl⟩ := open_bs Tryz.underlying9 (hval 0 _ _ rfl rfl) h0
    obtain ⟨pl, cl, La, rfl, hacts, hcl⟩ := open_acts (hval 1 _ _ rfl rfl) h1
    obtain ⟨xs, hlen, rfl, hwf⟩ := open_intArr Tryz.underlying71 Tryz.underlying2 (by kernel_rfl) (by kernel_rfl) (hval 2 _ _ rfl rfl) h2
    match xs, hlen, hwf with
    | [n0, n1, n2], _, hwf => exact walk l wl pl cl La hcl n0 n1 n2 (i64_of_wf (hwf 0 (by decide))) (i64_of_wf (hwf 1 (by decide))) (i64_of_wf (hwf 2 (by decide))) W hLd hacts
    skip

theorem and_i {a b : Bool} (h : a = true) (k : b = true) : (a && b) = true := by rw [h, k]; rfl
set_option maxRecDepth 100000 in
set_option maxHeartbeats 40000000 in
theorem joined : joinedFacts Tryz.pinned.checked.prog 7 Tryz.f7 (OpenSpec.ofChange Rows.daemonErrorsSpec).bare Rows.daemonErrorsRow = true := by
  unfold joinedFacts
  repeat' (with_reducible refine and_i ?_ ?_)
  all_goals (as_aux_lemma => kernel_rfl)
theorem inst : (Tryz.f7).isInstance Tryz.pinned.checked.prog Rows.daemonErrorsRow.origin Rows.daemonErrorsRow.targs := of_decide_eq_true (by kernel_rfl)
theorem wrap : (Tryz.f7).isWrapper Tryz.pinned.checked.prog Rows.daemonErrorsRow.wrapper Rows.daemonErrorsRow.mainSum := by
  unfold Func.isWrapper
  first | (rw [if_pos (by decide +kernel)]; kernel_rfl) | (rw [if_neg (by decide +kernel)]; exact ⟨rfl, rfl⟩)
theorem fname : Tryz.pinned.checked.prog.funcNamed Rows.daemonErrorsRow.func = some 7 := by kernel_rfl
theorem said : Rows.DaemonErrorsSaid :=
  OpenClaim.holds_of_cond 7 Tryz.f7 rfl rfl rfl rfl rfl rfl rfl ⟨rfl, rfl, rfl, rfl, rfl⟩ rfl rfl rfl rfl rfl fname Tryz.func7 joined inst wrap
    (fun os started H enc _ F => by rw [OpenClaim.pre_eq_preRow]; exact lifted os started H enc F)

theorem plain (f : FuncId) (fn : Func) (hf : Tryz.pinned.checked.prog.funcNamed "chronobate/chronobatelaw17.DaemonErrors" = some f) (hfn : Tryz.pinned.checked.prog.funcs[f]? = some fn) :
    true = Tryz.pinned.checked.prog.looks [] ∧ ∀ (j : Nat) t, fn.params[j]? = some t → Tryz.pinned.checked.prog.wantsStandIn t = false := by
  obtain rfl : f = 7 := Option.some.inj ((show Tryz.prog.funcNamed "chronobate/chronobatelaw17.DaemonErrors" = some 7 by kernel_rfl).symm.trans hf) |>.symm
  obtain rfl : fn = Tryz.f7 := (Option.some.inj (Tryz.func7.symm.trans hfn)).symm
  refine ⟨by kernel_rfl, fun j t ht => ?_⟩
  have hall : (Tryz.f7.params.toList.all fun t => !(Tryz.prog.wantsStandIn t)) = true := by kernel_rfl
  have := List.all_eq_true.1 hall t (Array.mem_toList_iff.2 (Array.mem_of_getElem? ht))
  have h2 : Tryz.prog.wantsStandIn t = false := by simpa using this
  exact h2

theorem proved : Rows.DaemonErrorsCardSaid :=
  Claim7.holds_tied_plain_at .later [] _ _ _ _ said (fun _ h => by cases h) (by kernel_rfl) (fun _ h => by cases h) daemonErrors_row_tie rfl ⟨rfl, rfl⟩ (by kernel_rfl) rfl plain (by kernel_rfl)
#print axioms proved
end Go.Proofs.YtkajhggdgpbfeaaGreatDoor.daemonErrors
