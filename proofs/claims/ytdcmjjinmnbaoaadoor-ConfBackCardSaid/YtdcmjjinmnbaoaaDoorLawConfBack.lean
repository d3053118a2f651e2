/- A config is parsed of its text; what is parsed of any text may be, and is parsed of its own text. No condition. -/
import Derived.Test.YtdcmjjinmnbaoaaDoorME
import Derived.Test.YtdcmjjinmnbaoaaDoorMF
namespace Go.Proofs.YtdcmjjinmnbaoaaDoor.confBack
open Go.ChangeShapes Go.WideShapes Go.ChangeAt Go.RowKit Go.Proofs.YtdcmjjinmnbaoaaDoor
set_option linter.unusedVariables false

set_option maxRecDepth 100000 in
set_option maxHeartbeats 16000000 in
theorem walk (a : Cfg) (pa : Option Addr) (ca : Nat) (l : List UInt8) (hl : l.length ≤ 9223372036854775807) (w : World) (ia : IntsL w pa a.srv) (la : a.srv.length ≤ ca) (hL : LaidN w) :
    Calls Tryd.prog 5 #[a.val pa ca, .string (bs l)] w fun e w' => e = .returned (.bool true) ∧ Mod NoB w w' := by
  have hmw : Mod NoB w (w.alloc (.cells #[.slice pa a.srv.length ca, .int .i64 a.q, .int .i64 a.l, .int .i64 a.m, .int .i64 a.d, .int .i64 a.s] 25)) := (Mod.refl _ _).alloc _
  have hb0 := heap_alloc_new w (.cells #[.slice pa a.srv.length ca, .int .i64 a.q, .int .i64 a.l, .int .i64 a.m, .int .i64 a.d, .int .i64 a.s] 25)
  obtain ⟨W1, hW1⟩ : ∃ W1, w.alloc (.cells #[.slice pa a.srv.length ca, .int .i64 a.q, .int .i64 a.l, .int .i64 a.m, .int .i64 a.d, .int .i64 a.s] 25) = W1 := ⟨_, rfl⟩
  rw [hW1] at hmw hb0
  replace hL := hide hL
  have hm : Hid (Mod NoB w W1) := hide hmw
  replace ia := hide (ia.mod0 hmw)
  obtain ⟨a0, a1, a2, a3, a4, a5, -⟩ := six_of hb0
  replace hW1 := hide hW1
  replace hb0 := hide hb0
  clear hmw
  go_enter Tryd.func5, Tryd.ntmps5
  go_upto_region 1 with (fail)
  rw [hW1.out]
  by_cases h1 : 100 < a.srv.length
  · skip
    go_wp2_with fail
    refine (calive_any _ (hL.out.mod hm.out)).mono ?_
    rintro e w3 ⟨rfl, hm2⟩
    replace hm := hide (hm.out.trans hm2)
    clear hm2
    go_wp2
    go_ret
    exact ⟨rfl, hm.out⟩
  · by_cases h2 : 5000 < l.length
    · skip
      go_wp2_with fail
      refine (calive_any _ (hL.out.mod hm.out)).mono ?_
      rintro e w3 ⟨rfl, hm2⟩
      replace hm := hide (hm.out.trans hm2)
      clear hm2
      go_wp2
      go_ret
      exact ⟨rfl, hm.out⟩
    · skip
      have hprint := hide (print_any pa a.srv ca a.q a.l a.m a.d a.s W1 ia.out la (by omega) (hL.out.mod hm.out))
      obtain ⟨f, hf⟩ : ∃ f, checkC a = f := ⟨_, rfl⟩
      have hf' : checkR a.srv a.q a.l a.m a.d a.s = f := hf
      unfold PrintOut at hprint
      rw [hf'] at hprint
      obtain ⟨tx, htx⟩ : ∃ tx, (if f = 0 then printT a.srv a.q a.l a.m a.d a.s else []) = tx := ⟨_, rfl⟩
      rw [htx] at hprint
      replace hprint := hide hprint.out
      replace htx := hide htx
      go_wp2_with fail
      refine hprint.out.mono ?_
      rintro e w3 ⟨rfl, hm2⟩
      replace hb0 := hide (hm2.heap hb0.out id)
      replace ia := hide (ia.out.mod0 hm2)
      replace hm := hide (hm.out.trans hm2)
      clear hm2
      clear a0 a1 a2 a3 a4 a5
      replace hf' := hide hf'
      by_cases hf0 : f = 0
      · skip
        subst hf0
        have hpp := parse_print hf
        have hlp : (printT a.srv a.q a.l a.m a.d a.s).length ≤ 9223372036854775807 := by have := printT_len (check_fine hf); omega
        have htx2 : printT a.srv a.q a.l a.m a.d a.s = tx := by rw [← htx.out, if_pos rfl]
        rw [htx2] at hpp hlp
        have hqq := fun w' (h : LaidN w') => parse_any tx hlp w' h
        rw [hpp] at hqq
        replace hqq := hide hqq
        have hsc : sameC a a = true := same_yes (eqI_all rfl fun _ _ => rfl) rfl rfl rfl rfl rfl
        replace hf := hide hf
        clear htx2 hpp hlp
        go_wp2_with fail
        refine (hqq.out _ (hL.out.mod hm.out)).mono ?_
        rintro e w4 ⟨ho, hm2⟩
        obtain ⟨px, cx, rfl, ix, lx, -, -⟩ := ho.vals rfl rfl rfl
        replace ix := hide ix
        clear ho
        replace hb0 := hide (hm2.heap hb0.out id)
        replace ia := hide (ia.out.mod0 hm2)
        replace hm := hide (hm.out.trans hm2)
        clear hm2
        obtain ⟨a0, a1, a2, a3, a4, a5, -⟩ := six_of (((Mod.refl NoB w4).alloc (.cells #[.slice px a.srv.length cx, .int .i64 a.q, .int .i64 a.l, .int .i64 a.m, .int .i64 a.d, .int .i64 a.s] 25)).heap hb0.out id)
        have hss := fun w' (i : IntsL w' pa a.srv) (j : IntsL w' px a.srv) => csame_any a a pa px ca cx w' i j (by omega)
        simp only [hsc] at hss
        replace hss := hide hss
        clear hsc
        have hm2 : Mod NoB w4 (w4.alloc (.cells #[.slice px a.srv.length cx, .int .i64 a.q, .int .i64 a.l, .int .i64 a.m, .int .i64 a.d, .int .i64 a.s] 25)) := (Mod.refl _ _).alloc _
        replace hb0 := hide (hm2.heap hb0.out id)
        replace ia := hide (ia.out.mod0 hm2)
        replace ix := hide (ix.out.mod0 hm2)
        replace hm := hide (hm.out.trans hm2)
        clear hm2
        go_wp2_with fail
        refine (hss.out _ ia.out ix.out).mono ?_
        rintro e w5 ⟨rfl, hm2⟩
        replace hb0 := hide (hm2.heap hb0.out id)
        replace ia := hide (ia.out.mod0 hm2)
        replace ix := hide (ix.out.mod0 hm2)
        replace hm := hide (hm.out.trans hm2)
        clear hm2
        clear a0 a1 a2 a3 a4 a5
        have hp2 := fun w' (h : LaidN w') => parse_any l hl w' h
        obtain ⟨d, n, er, hv⟩ : ∃ d n er, parseR l = (d, n, er) := ⟨_, _, _, rfl⟩
        have hcs := parse_cases l
        rw [hv] at hp2 hcs
        replace hp2 := hide hp2
        clear hv
        go_wp2_with fail
        refine (hp2.out _ (hL.out.mod hm.out)).mono ?_
        rintro e V1 ⟨ho, hm2⟩
        obtain ⟨pd, cd, rfl, idd, ld, -, ld16⟩ := ho.vals rfl rfl rfl
        replace idd := hide idd
        clear ho
        replace hm := hide (hm.out.trans hm2)
        clear hm2
        rcases hcs with ⟨e0, n0, hd0⟩ | ⟨e0, d0, n0⟩
        · skip
          change er = 0 at e0
          change n = 0 at n0
          subst e0
          subst n0
          change checkC d = 0 at hd0
          change d.srv.length ≤ 16 at ld16
          have hpd := parse_print hd0
          have hlp : (printT d.srv d.q d.l d.m d.d d.s).length ≤ 9223372036854775807 := by have := printT_len (check_fine hd0); omega
          have hcd : checkR d.srv d.q d.l d.m d.d d.s = 0 := hd0
          have hpp := fun w' (h : LaidN w') (i : IntsL w' pd d.srv) => print_any pd d.srv cd d.q d.l d.m d.d d.s w' i ld (by omega) h
          unfold PrintOut at hpp
          simp only [hcd, if_true] at hpp
          have hqq := fun w' (h : LaidN w') => parse_any _ hlp w' h
          rw [hpd] at hqq
          have hkk := fun w' (i : IntsL w' pd d.srv) => check_any pd d.srv cd d.q d.l d.m d.d d.s w' i ld (by omega)
          simp only [hcd] at hkk
          have hsc : sameC d d = true := same_yes (eqI_all rfl fun _ _ => rfl) rfl rfl rfl rfl rfl
          obtain ⟨tx, htx⟩ : ∃ tx, printT d.srv d.q d.l d.m d.d d.s = tx := ⟨_, rfl⟩
          rw [htx] at hpp hqq
          replace hpp := hide hpp
          replace hqq := hide hqq
          replace hkk := hide hkk
          clear htx hpd hlp hcd hd0
          go_wp2_with fail
          obtain ⟨V2, hV2⟩ : ∃ V2, V1.alloc (.cells #[.slice pd d.srv.length cd, .int .i64 d.q, .int .i64 d.l, .int .i64 d.m, .int .i64 d.d, .int .i64 d.s] 25) = V2 := ⟨_, rfl⟩
          have hm2 : Mod NoB V1 V2 := by rw [← hV2]; exact (Mod.refl _ _).alloc _
          have hbd : Hid (V2.heap[V1.heap.size]? = some (.cells #[.slice pd d.srv.length cd, .int .i64 d.q, .int .i64 d.l, .int .i64 d.m, .int .i64 d.d, .int .i64 d.s] 25 (0, 0))) := hide (by rw [← hV2]; exact heap_alloc_new _ _)
          rw [hV2]
          replace hV2 := hide hV2
          replace idd := hide (idd.out.mod0 hm2)
          replace hm := hide (hm.out.trans hm2)
          clear hm2
          obtain ⟨d0, d1, d2, d3, d4, d5, -⟩ := six_of hbd.out
          go_wp2_with fail
          refine (hpp.out _ (hL.out.mod hm.out) idd.out).mono ?_
          rintro e V3 ⟨rfl, hm2⟩
          replace hbd := hide (hm2.heap hbd.out id)
          replace idd := hide (idd.out.mod0 hm2)
          replace hm := hide (hm.out.trans hm2)
          clear hm2
          clear d0 d1 d2 d3 d4 d5
          go_wp2_with fail
          refine (hqq.out _ (hL.out.mod hm.out)).mono ?_
          rintro e V4 ⟨ho, hm2⟩
          obtain ⟨px, cx, rfl, ix, lx, -, -⟩ := ho.vals rfl rfl rfl
          replace ix := hide ix
          clear ho
          replace hbd := hide (hm2.heap hbd.out id)
          replace idd := hide (idd.out.mod0 hm2)
          replace hm := hide (hm.out.trans hm2)
          clear hm2
          go_wp2_with fail
          obtain ⟨V5, hV5⟩ : ∃ V5, V4.alloc (.cells #[.slice px d.srv.length cx, .int .i64 d.q, .int .i64 d.l, .int .i64 d.m, .int .i64 d.d, .int .i64 d.s] 25) = V5 := ⟨_, rfl⟩
          have hm2 : Mod NoB V4 V5 := by rw [← hV5]; exact (Mod.refl _ _).alloc _
          have hbx : Hid (V5.heap[V4.heap.size]? = some (.cells #[.slice px d.srv.length cx, .int .i64 d.q, .int .i64 d.l, .int .i64 d.m, .int .i64 d.d, .int .i64 d.s] 25 (0, 0))) := hide (by rw [← hV5]; exact heap_alloc_new _ _)
          rw [hV5]
          replace hV5 := hide hV5
          replace hbd := hide (hm2.heap hbd.out id)
          replace idd := hide (idd.out.mod0 hm2)
          replace ix := hide (ix.out.mod0 hm2)
          replace hm := hide (hm.out.trans hm2)
          clear hm2
          refine (calive_any _ (hL.out.mod hm.out)).mono ?_
          rintro e V6 ⟨rfl, hm2⟩
          replace hbd := hide (hm2.heap hbd.out id)
          replace hbx := hide (hm2.heap hbx.out id)
          replace idd := hide (idd.out.mod0 hm2)
          replace ix := hide (ix.out.mod0 hm2)
          replace hm := hide (hm.out.trans hm2)
          clear hm2
          obtain ⟨d0, d1, d2, d3, d4, d5, -⟩ := six_of hbd.out
          obtain ⟨x0, x1, x2, x3, x4, x5, -⟩ := six_of hbx.out
          go_wp2_with fail
          refine (hkk.out _ idd.out).mono ?_
          rintro e V7 ⟨rfl, hm2⟩
          replace hbd := hide (hm2.heap hbd.out id)
          replace hbx := hide (hm2.heap hbx.out id)
          replace idd := hide (idd.out.mod0 hm2)
          replace ix := hide (ix.out.mod0 hm2)
          replace hm := hide (hm.out.trans hm2)
          clear hm2
          clear d0 d1 d2 d3 d4 d5
          clear x0 x1 x2 x3 x4 x5
          obtain ⟨d0, d1, d2, d3, d4, d5, -⟩ := six_of hbd.out
          obtain ⟨x0, x1, x2, x3, x4, x5, -⟩ := six_of hbx.out
          have hss := csame_any d d px pd cx cd V7 ix.out idd.out (by omega)
          rw [hsc] at hss
          replace hss := hide hss
          clear hsc
          go_wp2_with fail
          refine hss.out.mono ?_
          rintro e V8 ⟨rfl, hm2⟩
          replace hbd := hide (hm2.heap hbd.out id)
          replace hbx := hide (hm2.heap hbx.out id)
          replace idd := hide (idd.out.mod0 hm2)
          replace ix := hide (ix.out.mod0 hm2)
          replace hm := hide (hm.out.trans hm2)
          clear hm2
          clear d0 d1 d2 d3 d4 d5
          clear x0 x1 x2 x3 x4 x5
          go_wp2
          go_ret
          exact ⟨rfl, hm.out⟩
        · skip
          change er ≠ 0 at e0
          change d = cfg0 at d0
          change 0 ≤ n at n0
          subst d0
          have heb : (er != 0) = true := by simpa [bne_iff_ne] using e0
          clear ld ld16
          go_wp2_with fail
          refine (calive_any _ (hL.out.mod (hm.out.alloc _))).mono ?_
          rintro e V3 ⟨rfl, hm2⟩
          have hx := hm2.heap (heap_alloc_new _ _) id
          have x0 := cell_of_block hx 0 rfl
          replace hm := hide ((hm.out.alloc _).trans hm2)
          replace hx := hide hx
          clear hm2
          go_wp2
          go_ret
          exact ⟨rfl, hm.out⟩
      · skip
        have hfb : (f == 0) = false := beq_eq_false_iff_ne.mpr hf0
        replace hf0 := hide hf0
        replace hf := hide hf
        have hp2 := fun w' (h : LaidN w') => parse_any l hl w' h
        obtain ⟨d, n, er, hv⟩ : ∃ d n er, parseR l = (d, n, er) := ⟨_, _, _, rfl⟩
        have hcs := parse_cases l
        rw [hv] at hp2 hcs
        replace hp2 := hide hp2
        clear hv
        go_wp2_with fail
        refine (hp2.out _ (hL.out.mod hm.out)).mono ?_
        rintro e V1 ⟨ho, hm2⟩
        obtain ⟨pd, cd, rfl, idd, ld, -, ld16⟩ := ho.vals rfl rfl rfl
        replace idd := hide idd
        clear ho
        replace hm := hide (hm.out.trans hm2)
        clear hm2
        rcases hcs with ⟨e0, n0, hd0⟩ | ⟨e0, d0, n0⟩
        · skip
          change er = 0 at e0
          change n = 0 at n0
          subst e0
          subst n0
          change checkC d = 0 at hd0
          change d.srv.length ≤ 16 at ld16
          have hpd := parse_print hd0
          have hlp : (printT d.srv d.q d.l d.m d.d d.s).length ≤ 9223372036854775807 := by have := printT_len (check_fine hd0); omega
          have hcd : checkR d.srv d.q d.l d.m d.d d.s = 0 := hd0
          have hpp := fun w' (h : LaidN w') (i : IntsL w' pd d.srv) => print_any pd d.srv cd d.q d.l d.m d.d d.s w' i ld (by omega) h
          unfold PrintOut at hpp
          simp only [hcd, if_true] at hpp
          have hqq := fun w' (h : LaidN w') => parse_any _ hlp w' h
          rw [hpd] at hqq
          have hkk := fun w' (i : IntsL w' pd d.srv) => check_any pd d.srv cd d.q d.l d.m d.d d.s w' i ld (by omega)
          simp only [hcd] at hkk
          have hsc : sameC d d = true := same_yes (eqI_all rfl fun _ _ => rfl) rfl rfl rfl rfl rfl
          obtain ⟨tx, htx⟩ : ∃ tx, printT d.srv d.q d.l d.m d.d d.s = tx := ⟨_, rfl⟩
          rw [htx] at hpp hqq
          replace hpp := hide hpp
          replace hqq := hide hqq
          replace hkk := hide hkk
          clear htx hpd hlp hcd hd0
          go_wp2_with fail
          obtain ⟨V2, hV2⟩ : ∃ V2, V1.alloc (.cells #[.slice pd d.srv.length cd, .int .i64 d.q, .int .i64 d.l, .int .i64 d.m, .int .i64 d.d, .int .i64 d.s] 25) = V2 := ⟨_, rfl⟩
          have hm2 : Mod NoB V1 V2 := by rw [← hV2]; exact (Mod.refl _ _).alloc _
          have hbd : Hid (V2.heap[V1.heap.size]? = some (.cells #[.slice pd d.srv.length cd, .int .i64 d.q, .int .i64 d.l, .int .i64 d.m, .int .i64 d.d, .int .i64 d.s] 25 (0, 0))) := hide (by rw [← hV2]; exact heap_alloc_new _ _)
          rw [hV2]
          replace hV2 := hide hV2
          replace idd := hide (idd.out.mod0 hm2)
          replace hm := hide (hm.out.trans hm2)
          clear hm2
          obtain ⟨d0, d1, d2, d3, d4, d5, -⟩ := six_of hbd.out
          go_wp2_with fail
          refine (hpp.out _ (hL.out.mod hm.out) idd.out).mono ?_
          rintro e V3 ⟨rfl, hm2⟩
          replace hbd := hide (hm2.heap hbd.out id)
          replace idd := hide (idd.out.mod0 hm2)
          replace hm := hide (hm.out.trans hm2)
          clear hm2
          clear d0 d1 d2 d3 d4 d5
          go_wp2_with fail
          refine (hqq.out _ (hL.out.mod hm.out)).mono ?_
          rintro e V4 ⟨ho, hm2⟩
          obtain ⟨px, cx, rfl, ix, lx, -, -⟩ := ho.vals rfl rfl rfl
          replace ix := hide ix
          clear ho
          replace hbd := hide (hm2.heap hbd.out id)
          replace idd := hide (idd.out.mod0 hm2)
          replace hm := hide (hm.out.trans hm2)
          clear hm2
          go_wp2_with fail
          obtain ⟨V5, hV5⟩ : ∃ V5, V4.alloc (.cells #[.slice px d.srv.length cx, .int .i64 d.q, .int .i64 d.l, .int .i64 d.m, .int .i64 d.d, .int .i64 d.s] 25) = V5 := ⟨_, rfl⟩
          have hm2 : Mod NoB V4 V5 := by rw [← hV5]; exact (Mod.refl _ _).alloc _
          have hbx : Hid (V5.heap[V4.heap.size]? = some (.cells #[.slice px d.srv.length cx, .int .i64 d.q, .int .i64 d.l, .int .i64 d.m, .int .i64 d.d, .int .i64 d.s] 25 (0, 0))) := hide (by rw [← hV5]; exact heap_alloc_new _ _)
          rw [hV5]
          replace hV5 := hide hV5
          replace hbd := hide (hm2.heap hbd.out id)
          replace idd := hide (idd.out.mod0 hm2)
          replace ix := hide (ix.out.mod0 hm2)
          replace hm := hide (hm.out.trans hm2)
          clear hm2
          refine (calive_any _ (hL.out.mod hm.out)).mono ?_
          rintro e V6 ⟨rfl, hm2⟩
          replace hbd := hide (hm2.heap hbd.out id)
          replace hbx := hide (hm2.heap hbx.out id)
          replace idd := hide (idd.out.mod0 hm2)
          replace ix := hide (ix.out.mod0 hm2)
          replace hm := hide (hm.out.trans hm2)
          clear hm2
          obtain ⟨d0, d1, d2, d3, d4, d5, -⟩ := six_of hbd.out
          obtain ⟨x0, x1, x2, x3, x4, x5, -⟩ := six_of hbx.out
          go_wp2_with fail
          refine (hkk.out _ idd.out).mono ?_
          rintro e V7 ⟨rfl, hm2⟩
          replace hbd := hide (hm2.heap hbd.out id)
          replace hbx := hide (hm2.heap hbx.out id)
          replace idd := hide (idd.out.mod0 hm2)
          replace ix := hide (ix.out.mod0 hm2)
          replace hm := hide (hm.out.trans hm2)
          clear hm2
          clear d0 d1 d2 d3 d4 d5
          clear x0 x1 x2 x3 x4 x5
          obtain ⟨d0, d1, d2, d3, d4, d5, -⟩ := six_of hbd.out
          obtain ⟨x0, x1, x2, x3, x4, x5, -⟩ := six_of hbx.out
          have hss := csame_any d d px pd cx cd V7 ix.out idd.out (by omega)
          rw [hsc] at hss
          replace hss := hide hss
          clear hsc
          go_wp2_with fail
          refine hss.out.mono ?_
          rintro e V8 ⟨rfl, hm2⟩
          replace hbd := hide (hm2.heap hbd.out id)
          replace hbx := hide (hm2.heap hbx.out id)
          replace idd := hide (idd.out.mod0 hm2)
          replace ix := hide (ix.out.mod0 hm2)
          replace hm := hide (hm.out.trans hm2)
          clear hm2
          clear d0 d1 d2 d3 d4 d5
          clear x0 x1 x2 x3 x4 x5
          go_wp2
          go_ret
          exact ⟨rfl, hm.out⟩
        · skip
          change er ≠ 0 at e0
          change d = cfg0 at d0
          change 0 ≤ n at n0
          subst d0
          have heb : (er != 0) = true := by simpa [bne_iff_ne] using e0
          clear ld ld16
          go_wp2_with fail
          refine (calive_any _ (hL.out.mod (hm.out.alloc _))).mono ?_
          rintro e V3 ⟨rfl, hm2⟩
          have hx := hm2.heap (heap_alloc_new _ _) id
          have x0 := cell_of_block hx 0 rfl
          replace hm := hide ((hm.out.alloc _).trans hm2)
          replace hx := hide hx
          clear hm2
          go_wp2
          go_ret
          exact ⟨rfl, hm.out⟩

theorem own : ownKnob Tryd.prog.godebug = none := by kernel_rfl

theorem laid_met (os : Os) : laidMet Tryd.prog Rows.confBackRow.laid ((World.laidAll Tryd.prog os Rows.confBackRow.laid).forCall (fun _ _ => 0) ⟨#[], #[.agg #[.slice none 0 0, .int .i64 0, .int .i64 0, .int .i64 0, .int .i64 0, .int .i64 0], .string ⟨#[]⟩], []⟩).memory :=
  laidMet_laidAll _ (by kernel_rfl) (by kernel_rfl)
theorem reads (os : Os) {H : Type} (enc : TypeId × Value → H) : ∃ places, DataW.whole enc Tryd.prog ((World.laidAll Tryd.prog os Rows.confBackRow.laid).forCall (fun _ _ => 0) ⟨#[], #[.agg #[.slice none 0 0, .int .i64 0, .int .i64 0, .int .i64 0, .int .i64 0, .int .i64 0], .string ⟨#[]⟩], []⟩).memory Tryd.f5.params.toList Rows.confBackSpec.vars false #[.agg #[.slice none 0 0, .int .i64 0, .int .i64 0, .int .i64 0, .int .i64 0, .int .i64 0], .string ⟨#[]⟩].toList 8 = some ([.agg [.nil, .lit (.int .i64 0), .lit (.int .i64 0), .lit (.int .i64 0), .lit (.int .i64 0), .lit (.int .i64 0)], .lit (.string [])], [], places) :=
  ⟨[], by kernel_rfl⟩

set_option maxRecDepth 100000 in
theorem lifted (os : Os) (started : os.Started) (H : Type) (enc : TypeId × Value → H) (F : Stop.Interp) :
    ReturnsInHanded {} Tryd.checked os 5 .any ((OpenSpec.ofChange Rows.confBackSpec).preRow enc Tryd.prog Tryd.f5 Rows.confBackRow.domain false Rows.confBackRow.laid) (((OpenSpec.ofChange Rows.confBackSpec).at F).post enc Tryd.prog Tryd.f5 false true false false) := by
  obtain ⟨places, hx⟩ := reads os enc
  refine law_row (C := Tryd.checked) (bt := 4) own started (by kernel_rfl) Tryd.func5 (by kernel_rfl) (by kernel_rfl) (by kernel_rfl) Tryd.underlying4 rfl ?_ rfl
    (witness_row_atRef (enc := enc) (C := Tryd.checked) false (World.laidAll Tryd.prog os Rows.confBackRow.laid) #[.agg #[.slice none 0 0, .int .i64 0, .int .i64 0, .int .i64 0, .int .i64 0, .int .i64 0], .string ⟨#[]⟩] (World.laidAll_os _ _ _) (by kernel_rfl) (by kernel_rfl) (by kernel_rfl)
      (OpenSpec.preRow_of_cond 8 hx (by kernel_rfl) (fun k hk => by cases hk) (by kernel_rfl) (laid_met os))) ?_
  · intro ds h
    match ds, h with
    | [d0, d1], _ => rfl
  · intro W base args ds ps hval0 hA0 hsz hL hsh
    have hval : ∀ (j : Nat) t v, Tryd.f5.params[j]? = some t → args[j]? = some v → Value.okWide Tryd.prog W .any base t v := hval0
    have hA : DataW.TrodAll enc Tryd.prog W 0 (fun _ => true) true Tryd.f5.params.toList args.toList ds ps := hA0
    have hLd := laidN_of (by simp [Rows.confBackRow]) (by simp [Rows.confBackRow]) (by simp [Rows.confBackRow]) hL
    rw [Tryd.params5] at hA hval
    obtain ⟨v0, v1, d0, d1, p0, p1, rfl, rfl, rfl, h0, h1⟩ := trodAll_two hA
    obtain ⟨a, pa, ca, rfl, ia, la, ma, ka⟩ := open_cfg (hval 0 _ _ rfl rfl) h0
    obtain ⟨l, rfl, wl⟩ := open_bs Tryd.underlying9 (hval 1 _ _ rfl rfl) h1
    exact walk a pa ca l wl W ia la hLd

theorem said : Rows.ConfBackSaid :=
  OpenClaim.holds_of_cond 5 Tryd.f5 rfl rfl rfl rfl rfl rfl rfl ⟨rfl, rfl, rfl, rfl, rfl⟩ rfl rfl rfl rfl rfl (by kernel_rfl) Tryd.func5 (by kernel_rfl)
    (of_decide_eq_true (by kernel_rfl)) (by unfold Func.isWrapper; first | (rw [if_pos (by decide +kernel)]; kernel_rfl) | (rw [if_neg (by decide +kernel)]; exact ⟨rfl, rfl⟩))
    (fun os started H enc _ F => by rw [OpenClaim.pre_eq_preRow]; exact lifted os started H enc F)

theorem plain (f : FuncId) (fn : Func) (hf : Tryd.pinned.checked.prog.funcNamed "chronobate/chronobatelaw06.ConfBack" = some f) (hfn : Tryd.pinned.checked.prog.funcs[f]? = some fn) :
    true = Tryd.pinned.checked.prog.looks [] ∧ ∀ (j : Nat) t, fn.params[j]? = some t → Tryd.pinned.checked.prog.wantsStandIn t = false := by
  obtain rfl : f = 5 := Option.some.inj ((show Tryd.prog.funcNamed "chronobate/chronobatelaw06.ConfBack" = some 5 by kernel_rfl).symm.trans hf) |>.symm
  obtain rfl : fn = Tryd.f5 := (Option.some.inj (Tryd.func5.symm.trans hfn)).symm
  refine ⟨by kernel_rfl, fun j t ht => ?_⟩
  have hall : (Tryd.f5.params.toList.all fun t => !(Tryd.prog.wantsStandIn t)) = true := by kernel_rfl
  have := List.all_eq_true.1 hall t (Array.mem_toList_iff.2 (Array.mem_of_getElem? ht))
  have h2 : Tryd.prog.wantsStandIn t = false := by simpa using this
  exact h2

theorem proved : Rows.ConfBackCardSaid :=
  Claim7.holds_tied_plain_at .later [] _ _ _ _ said (fun _ h => by cases h) (by kernel_rfl) (fun _ h => by cases h) confBack_row_tie rfl ⟨rfl, rfl⟩ (by kernel_rfl) rfl plain (by kernel_rfl)
#print axioms proved
end Go.Proofs.YtdcmjjinmnbaoaaDoor.confBack
