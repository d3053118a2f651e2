/- The document's Parse of a config (chapter 6), walked. -/
import Derived.Test.YtkajhggdgpbfeaaGreatDoorPNbi
import Derived.Test.YtkajhggdgpbfeaaGreatDoorPNan
namespace Go.Proofs.YtkajhggdgpbfeaaGreatDoor
open Go.RowKit

theorem seenV_at (s : Nat → Bool) : ∀ k, k < 5 → (seenV s)[k]? = some (.bool (s k)) := by
  intro k hk
  rcases bounds5 k hk with rfl | rfl | rfl | rfl | rfl <;> rfl

set_option maxRecDepth 100000 in
set_option maxHeartbeats 16000000 in
theorem rparse_any (l : List UInt8) (hl : l.length ≤ 65536) (w : World) :
    Calls Tryz.prog 35 #[.string (bs l)] w fun e w' => ParseOut (parseR l) w e w' ∧ Mod NoB w w' := by
  have hlw := fun w' => rlines_any l w' hl
  replace hlw := hide hlw
  obtain ⟨r, hr⟩ : ∃ r, parseR l = r := ⟨_, rfl⟩
  rw [hr]
  replace hr := hide hr
  go_enter Tryz.func35, Tryz.ntmps35
  go_wp2_with fail
  refine (hlw.out _).mono ?_
  rintro e w1 ⟨(⟨j, h1, h2, h3, rfl⟩ | ⟨hok, v, rfl, hv⟩), hm⟩
  · have hm1 : Hid (Mod NoB w w1) := hide (((Mod.refl _ _).alloc _).trans hm)
    have hb : w1.heap[w.heap.size]? = some (.cells #[.slice none 0 0, .int .i64 0, .int .i64 0, .int .i64 0, .int .i64 0, .int .i64 0] 59 (0, 0)) := hm.heap (heap_alloc_new _ _) id
    have hr2 : Hid (r = (cfg0, ((j + 1 : Nat) : Int), 6)) := hide (hr.out.symm.trans (parseR_bad (by omega) (badAt_some h1 h2 h3)))
    clear hm h1 h2 h3
    obtain ⟨b0, b1, b2, b3, b4, b5, f0, f1, f2, f3, f4, f5⟩ := six_of hb
    obtain ⟨W6, hW6, hb6, hm6⟩ := set6 hb (.slice none 0 0) (.int .i64 0) (.int .i64 0) (.int .i64 0) (.int .i64 0) (.int .i64 0)
    replace hW6 := hide hW6
    replace hb6 := hide hb6
    replace hb := hide hb
    have hmf : Hid (Mod NoB w W6) := hide (hm1.out.into hm6 (fun b e => Or.inr (by omega)))
    clear hm6
    go_wp2
    rw [hW6.out]
    clear b0 b1 b2 b3 b4 b5 f0 f1 f2 f3 f4 f5
    obtain ⟨b0, b1, b2, b3, b4, b5, -⟩ := six_of hb6.out
    rw [hr2.out]
    refine bodyPost_ret (v := .tuple #[.agg #[.slice none 0 0, .int .i64 0, .int .i64 0, .int .i64 0, .int .i64 0, .int .i64 0], .int .i64 ((j + 1 : Nat) : Int), .int .i64 6]) (by simp [results, Tryz.results35, go_sem, b0, b1, b2, b3, b4, b5]) rfl ⟨.err, hmf.out⟩
  · have hm1 : Hid (Mod NoB w w1) := hide (((Mod.refl _ _).alloc _).trans hm)
    have hb : Hid (w1.heap[w.heap.size]? = some (.cells #[.slice none 0 0, .int .i64 0, .int .i64 0, .int .i64 0, .int .i64 0, .int .i64 0] 59 (0, 0))) := hide (hm.heap (heap_alloc_new _ _) id)
    have hr2 := hide (hr.out.symm.trans (parseR_lines (by omega) (badAt_none hok)))
    obtain ⟨L, hLn⟩ : ∃ L, linesTo l (partsN 10 l) = L := ⟨_, rfl⟩
    have hLe := hide (linesTo_each l (partsN 10 l))
    have hLlen := linesTo_len l (partsN 10 l)
    rw [hLn] at hv hr2 hLe hLlen
    have hpN : partsN 10 l ≤ 65537 := by have := List.count_le_length (a := (10 : UInt8)) (l := l); simp only [partsN]; omega
    have hLl : L.length ≤ 65537 := by omega
    clear hLlen hpN hLn hm hok
    obtain ⟨p, cap, rfl, hcells⟩ := hv.open
    replace hcells := hide hcells
    clear hv
    go_wp2_with fail
    obtain ⟨w3, hw3⟩ : ∃ w3, (w1.alloc (.cells #[.slice none 0 0, .int .i64 0, .int .i64 0, .int .i64 0, .int .i64 0, .int .i64 0] 59)).alloc (.cells #[.bool false, .bool false, .bool false, .bool false, .bool false] 162) = w3 := ⟨_, rfl⟩
    have hm13 : Hid (Mod NoB w1 w3) := hide (by rw [← hw3]; exact ((Mod.refl _ _).alloc _).alloc _)
    have hsz3 : w3.heap.size = w1.heap.size + 2 := by rw [← hw3]; simp
    have hcf : w3.heap[w1.heap.size]? = some (.cells #[.slice none 0 0, .int .i64 0, .int .i64 0, .int .i64 0, .int .i64 0, .int .i64 0] 59 (0, 0)) := by rw [← hw3]; exact (heap_alloc_old (by simp) _).trans (heap_alloc_new _ _)
    have hcs : w3.heap[w1.heap.size + 1]? = some (.cells #[.bool false, .bool false, .bool false, .bool false, .bool false] 162 (0, 0)) := by
      rw [← hw3]
      have := heap_alloc_new (w1.alloc (.cells #[.slice none 0 0, .int .i64 0, .int .i64 0, .int .i64 0, .int .i64 0, .int .i64 0] 59)) (.cells #[.bool false, .bool false, .bool false, .bool false, .bool false] 162)
      rwa [World.size_alloc] at this
    have hRS : Hid (RS (w1.heap.size + 2) w1.heap.size (w1.heap.size + 1) st0 w3) := hide ⟨⟨_, hcf, World.ownsRow_nil _ _ _ _⟩, hcs, ⟨by omega, by omega⟩, by omega⟩
    rw [hw3]
    clear hw3 hcf hcs hsz3
    obtain ⟨bc, hbc⟩ : ∃ bc, w1.heap.size = bc := ⟨_, rfl⟩
    rw [hbc] at hRS ⊢
    replace hbc := hide hbc
    go_loopw [10] (fun vi wr => ∃ (i : Nat) (st : St), i ≤ L.length ∧ vi = .int .i64 i ∧ RS (bc + 2) bc (bc + 1) st wr ∧ linesR L st0 = linesR (L.drop i) st ∧ st.1.srv.length ≤ 16 ∧ Mod (bc ≤ ·) w3 wr) (fun vi _ => L.length - (intOf vi).toNat)
    case atStart => exact ⟨0, st0, by omega, rfl, hRS.out, by simp, by simp [st0, cfg0], Mod.refl _ _⟩
    case round =>
      obtain ⟨i, st, hil, rfl, hC, hlin, h16, hm⟩ := hrel
      have hwb : w.heap.size < bc := by rw [← hbc.out]; exact lt_of_block hb.out
      have hmw2 : Hid (Mod NoB w wr) := hide ((hm1.out.trans hm13.out).into hm (fun b' h => Or.inr (by omega)))
      have hbr : Hid (wr.heap[w.heap.size]? = some (.cells #[.slice none 0 0, .int .i64 0, .int .i64 0, .int .i64 0, .int .i64 0, .int .i64 0] 59 (0, 0))) := hide (hm.heap (hm13.out.heap hb.out id) (by omega))
      by_cases hlt : i < L.length
      · obtain ⟨⟨n, ws⟩, hx⟩ : ∃ x, L[i]? = some x := ⟨L[i], by simp [hlt]⟩
        obtain ⟨g, u, c, rfl, hx1, hx2, hx3⟩ := hcells.out i _ hx
        obtain ⟨q1, q2, q3, q4⟩ := hLe.out _ (List.mem_of_getElem? hx)
        have hdrop : L.drop i = (n, ws) :: L.drop (i + 1) := by
          rw [← List.getElem_cons_drop hlt]
          congr 1
          have := List.getElem?_eq_getElem hlt
          rw [hx] at this
          exact (Option.some.inj this).symm
        change 0 < ws.length at q2
        change ws.length ≤ l.length at q3
        obtain ⟨gw, cw, e1, -, hcw, hxw⟩ := hx3.open q2
        cases e1
        obtain ⟨cw, rfl⟩ : ∃ cw, cw = c := ⟨_, rfl⟩
        have hg : g < bc := by rw [← hbc.out]; exact lt_of_cell hx1
        have hgw : gw < bc := by rw [← hbc.out]; obtain ⟨s, hs⟩ : ∃ s, ws[0]? = some s := ⟨ws[0], by simp [q2]⟩; exact lt_of_cell (hxw 0 s hs)
        have hcm := hx3.cap
        have y1 : wr.cell? ⟨g, i * 2, none⟩ = some (.int .i64 n) := hm.cellAt (by omega) (hm13.out.cellAt id hx1)
        have y2 : wr.cell? ⟨g, i * 2 + 1, none⟩ = some (.slice (some ⟨gw, 0, none⟩) ws.length cw) := hm.cellAt (by omega) (hm13.out.cellAt id hx2)
        have hwa : WordsAt gw ws wr := fun j s hs => hm.cellAt (by omega) (hm13.out.cellAt id (hxw j s hs))
        obtain ⟨s0, ns, rfl⟩ : ∃ s0 ns, ws = s0 :: ns := by
          cases ws with
          | nil => simp at q2
          | cons s0 ns => exact ⟨s0, ns, rfl⟩
        have hline := rline_any (bc + 2) bc (bc + 1) st s0 ns gw cw wr hC hwa (by simpa using hcw) hcm (by simp at q3; omega) (fun s hs => by have := q4 s (by simp [hs]); omega) (by omega)
        obtain ⟨er, her⟩ : ∃ er, (lineR (s0 :: ns) st).1 = er := ⟨_, rfl⟩
        unfold RLineOut at hline
        rw [her] at hline
        rw [List.length_cons] at y2
        have hi0 : (0 : Int) ≤ (i : Int) := by omega
        have hi1 : (i : Int) < (L.length : Int) := by omega
        replace hline := hide hline
        replace her := hide her
        replace hC := hide hC
        replace hlin := hide hlin
        replace h16 := hide h16
        replace hm := hide hm
        replace hx1 := hide hx1
        replace hx2 := hide hx2
        replace hx3 := hide hx3
        replace hx := hide hx
        replace hdrop := hide hdrop
        replace hcw := hide hcw
        replace hxw := hide hxw
        replace hwa := hide hwa
        replace q4 := hide q4
        go_wp2_with fail
        refine hline.out.mono ?_
        rintro e w4 ⟨⟨rfl, hok⟩, hm4⟩
        have hm4b : Mod (bc ≤ ·) wr w4 := hm4.mono (fun x _ h => by show bc ≤ x; omega)
        by_cases he : er = 0
        · subst he
          have hC4 := hok rfl
          have hm4' := hm.out.trans hm4b
          have h16' := line_srv her.out h16.out
          have hlin' : linesR L st0 = linesR (L.drop (i + 1)) (lineR (s0 :: ns) st).2 := by rw [hlin.out, hdrop.out, linesR_ok her.out]
          replace hC4 := hide hC4
          replace hm4' := hide hm4'
          replace hlin' := hide hlin'
          replace h16' := hide h16'
          clear hok hm4 hm4b
          go_wp2_with fail
          go_roundw
          case rel => exact ⟨i + 1, (lineR (s0 :: ns) st).2, by omega, by go_num, hC4.out, hlin'.out, h16'.out, hm4'.out⟩
          case measure => simp [intOf]; omega
        · have heb : (er != 0) = true := by simpa [bne_iff_ne] using he
          have x0 : w4.cell? ⟨g, i * 2, none⟩ = some (.int .i64 n) := hm4b.cellAt (by omega) y1
          have hb4 : w4.heap[w.heap.size]? = some (.cells #[.slice none 0 0, .int .i64 0, .int .i64 0, .int .i64 0, .int .i64 0, .int .i64 0] 59 (0, 0)) := hm4b.heap hbr.out (by omega)
          obtain ⟨b0, b1, b2, b3, b4, b5, f0, f1, f2, f3, f4, f5⟩ := six_of hb4
          obtain ⟨W6, hW6, hb6, hm6⟩ := set6 hb4 (.slice none 0 0) (.int .i64 0) (.int .i64 0) (.int .i64 0) (.int .i64 0) (.int .i64 0)
          have hrr : Hid (r = (cfg0, (n : Int), er)) := hide (by
            rw [hr2.out, hlin.out, hdrop.out, linesR_bad (by rw [her.out]; exact he), endR_err (by show (lineR (s0 :: ns) st).1 ≠ 0; rw [her.out]; exact he)]
            show (cfg0, (n : Int), (lineR (s0 :: ns) st).1) = _
            rw [her.out])
          have hmf : Hid (Mod NoB w W6) := hide ((hmw2.out.into hm4b (fun b' h => Or.inr (by omega))).into hm6 (fun b' e => Or.inr (by omega)))
          have hne : ¬ g = w.heap.size := by
            intro e
            have h2 := hx2.out
            rw [e] at h2
            rcases (by omega : i = 0 ∨ i = 1 ∨ i = 2 ∨ 3 ≤ i) with rfl | rfl | rfl | h3
            · simp [World.cell?, hb.out] at h2
            · simp [World.cell?, hb.out] at h2
            · simp [World.cell?, hb.out] at h2
            · simp [World.cell?, hb.out] at h2
              rw [List.getElem?_eq_none (by simp; omega)] at h2
              cases h2
          replace hW6 := hide hW6
          replace hb6 := hide hb6
          replace hb4 := hide hb4
          clear hok hm4 hm4b hm6
          go_wp2_with fail
          go_region_with ((fail))
          all_goals
            go_wp2
            rw [hW6.out]
            clear b0 b1 b2 b3 b4 b5 f0 f1 f2 f3 f4 f5
            obtain ⟨b0, b1, b2, b3, b4, b5, -⟩ := six_of hb6.out
            rw [hrr.out]
            refine bodyPost_ret (v := .tuple #[.agg #[.slice none 0 0, .int .i64 0, .int .i64 0, .int .i64 0, .int .i64 0, .int .i64 0], .int .i64 n, .int .i64 er]) (by simp [results, Tryz.results35, go_sem, b0, b1, b2, b3, b4, b5]) rfl ⟨.err, hmf.out.drew⟩
      · obtain rfl : i = L.length := by omega
        rw [List.drop_length] at hlin
        have hend : linesR L st0 = (0, 0, st) := hlin
        rw [hend] at hr2
        clear hlin hend
        have hlow := hC.low
        have hbcn := hC.ne
        have hseenb := hide hC.seen
        obtain ⟨sv, hcb, hown⟩ := hC.cfg
        obtain ⟨sp, sn, sc, rfl⟩ := own_slice hown
        obtain ⟨rfl, hints, hge⟩ := own_ints hown
        have hsc : st.1.srv.length ≤ sc := by
          rcases hown.2 with ⟨h1, h2⟩ | ⟨g, cap', cur, hv, _, _, hc, _⟩
          · simp at h1; omega
          · simp at hv; omega
        have hb6 := hbr.out
        have hge2 : ∀ b' off, sp = some ⟨b', off, none⟩ → w.heap.size ≤ b' := fun b' off e => by have := hge b' off e; omega
        have hchk := rcheck_any sp st.1.srv sc st.1.q st.1.l st.1.m st.1.d st.1.s wr hints (by omega)
        have hr3 := hide (fun (h5 : seenAll st.2 = true) (he : checkC st.1 ≠ 0) => hr2.out.trans (endR_check (x := (0, 0, st)) rfl h5 he))
        have hr4 := hide (fun (h5 : seenAll st.2 = true) (he : checkC st.1 = 0) => hr2.out.trans (endR_ok (x := (0, 0, st)) rfl h5 he))
        have hr5 := hide (fun (h5 : seenAll st.2 = false) => hr2.out.trans (endR_lack (x := (0, 0, st)) rfl h5))
        have hce : checkR st.1.srv st.1.q st.1.l st.1.m st.1.d st.1.s = checkC st.1 := rfl
        rw [hce] at hchk
        obtain ⟨er, her⟩ : ∃ er, checkC st.1 = er := ⟨_, rfl⟩
        rw [her] at hr3 hr4 hchk
        obtain ⟨b0, b1, b2, b3, b4, b5, f0, f1, f2, f3, f4, f5⟩ := six_of hb6
        obtain ⟨c0, c1, c2, c3, c4, c5, -⟩ := six_of hcb
        replace hchk := hide hchk
        replace her := hide her
        replace hown := hide hown
        replace hints := hide hints
        replace hge := hide hge
        replace hge2 := hide hge2
        replace hcb := hide hcb
        replace hb6 := hide hb6
        replace hm := hide hm
        replace hC := hide hC
        clear hce
        go_wp2_with fail
        go_loop [11] (fun vi => ∃ (k : Nat), k ≤ 5 ∧ vi = .int .i64 k ∧ (∀ j, j < k → st.2 j = true)) (fun vi => 5 - (intOf vi).toNat)
        case atStart => exact ⟨0, by omega, rfl, by omega⟩
        case round =>
          obtain ⟨k, hk5, rfl, hall⟩ := hrel
          by_cases hk : k < 5
          · have hsk := cell_of_block hseenb.out k (seenV_at st.2 k hk)
            have hd : decide ((k : Int) < 5) = true := by simp; omega
            have hi0 : (0 : Int) ≤ (k : Int) := by omega
            have hi5 : (k : Int) < 5 := by omega
            cases hsn : st.2 k with
            | true =>
              have hall' : Hid (∀ j, j < k + 1 → st.2 j = true) := hide (fun j hj => by
                by_cases h : j < k
                · exact hall j h
                · obtain rfl : j = k := by omega
                  exact hsn)
              replace hall := hide hall
              go_wp2_with fail
              go_round
              case rel => exact ⟨k + 1, by omega, by go_num, hall'.out⟩
              case measure => simp [intOf]; omega
            | false =>
              have hrr := hide (hr5.out (seenAll_false hk hsn))
              obtain ⟨W6, hW6, hb7, hm7⟩ := set6 hb6.out (.slice none 0 0) (.int .i64 0) (.int .i64 0) (.int .i64 0) (.int .i64 0) (.int .i64 0)
              have hmf : Hid (Mod NoB w W6) := hide (hmw2.out.into hm7 (fun b' e => Or.inr (by omega)))
              replace hW6 := hide hW6
              replace hb7 := hide hb7
              replace hall := hide hall
              clear hm7
              go_wp2
              rw [hW6.out]
              clear b0 b1 b2 b3 b4 b5 f0 f1 f2 f3 f4 f5
              obtain ⟨b0, b1, b2, b3, b4, b5, -⟩ := six_of hb7.out
              rw [hrr.out]
              refine bodyPost_ret (v := .tuple #[.agg #[.slice none 0 0, .int .i64 0, .int .i64 0, .int .i64 0, .int .i64 0, .int .i64 0], .int .i64 0, .int .i64 13]) (by simp [results, Tryz.results35, go_sem, b0, b1, b2, b3, b4, b5]) rfl ⟨.err, hmf.out⟩
          · obtain rfl : k = 5 := by omega
            have hall5 := hide (seenAll_true hall)
            replace hall := hide hall
            go_wp2_with fail
            refine hchk.out.mono ?_
            rintro e w7 ⟨rfl, hm7⟩
            have hb7 := hm7.heap hb6.out id
            have hcb7 := hm7.heap hcb.out id
            clear c0 c1 c2 c3 c4 c5 b0 b1 b2 b3 b4 b5 f0 f1 f2 f3 f4 f5
            obtain ⟨c0, c1, c2, c3, c4, c5, -⟩ := six_of hcb7
            obtain ⟨b0, b1, b2, b3, b4, b5, f0, f1, f2, f3, f4, f5⟩ := six_of hb7
            have hmr7 := hide (hmw2.out.trans hm7)
            have hints7 : Hid (IntsL w7 sp st.1.srv) := hide (hints.out.mod0 hm7)
            replace hm7 := hide hm7
            replace hcb7 := hide hcb7
            by_cases he : er = 0
            · have heb : (er != 0) = false := by rw [he]; rfl
              obtain ⟨W6, hW6, hb8, hm8⟩ := set6 hb7 (.slice sp st.1.srv.length sc) (.int .i64 st.1.q) (.int .i64 st.1.l) (.int .i64 st.1.m) (.int .i64 st.1.d) (.int .i64 st.1.s)
              have hmf : Hid (Mod NoB w W6) := hide (hmr7.out.into hm8 (fun b' e => Or.inr (by omega)))
              have hints8 : Hid (IntsL W6 sp st.1.srv) := hide (hints7.out.mod hm8 (fun b' off e => by have := hge.out b' off e; omega))
              have hrr := hide (hr4.out hall5.out he)
              replace hW6 := hide hW6
              replace hb8 := hide hb8
              replace hb7 := hide hb7
              clear hm8
              go_wp2
              rw [hW6.out]
              clear b0 b1 b2 b3 b4 b5 f0 f1 f2 f3 f4 f5
              obtain ⟨b0, b1, b2, b3, b4, b5, -⟩ := six_of hb8.out
              rw [hrr.out]
              refine bodyPost_ret (v := .tuple #[.agg #[.slice sp st.1.srv.length sc, .int .i64 st.1.q, .int .i64 st.1.l, .int .i64 st.1.m, .int .i64 st.1.d, .int .i64 st.1.s], .int .i64 0, .int .i64 0]) (by simp [results, Tryz.results35, go_sem, b0, b1, b2, b3, b4, b5]) rfl ⟨⟨sp, sc, rfl, hints8.out, hsc, hge2.out, h16⟩, hmf.out⟩
            · have heb : (er != 0) = true := by simpa [bne_iff_ne] using he
              obtain ⟨W6, hW6, hb8, hm8⟩ := set6 hb7 (.slice none 0 0) (.int .i64 0) (.int .i64 0) (.int .i64 0) (.int .i64 0) (.int .i64 0)
              have hmf : Hid (Mod NoB w W6) := hide (hmr7.out.into hm8 (fun b' e => Or.inr (by omega)))
              have hrr := hide (hr3.out hall5.out he)
              replace hW6 := hide hW6
              replace hb8 := hide hb8
              replace hb7 := hide hb7
              clear hm8
              go_wp2
              rw [hW6.out]
              clear b0 b1 b2 b3 b4 b5 f0 f1 f2 f3 f4 f5
              obtain ⟨b0, b1, b2, b3, b4, b5, -⟩ := six_of hb8.out
              rw [hrr.out]
              refine bodyPost_ret (v := .tuple #[.agg #[.slice none 0 0, .int .i64 0, .int .i64 0, .int .i64 0, .int .i64 0, .int .i64 0], .int .i64 0, .int .i64 er]) (by simp [results, Tryz.results35, go_sem, b0, b1, b2, b3, b4, b5]) rfl ⟨.err, hmf.out⟩
end Go.Proofs.YtkajhggdgpbfeaaGreatDoor

