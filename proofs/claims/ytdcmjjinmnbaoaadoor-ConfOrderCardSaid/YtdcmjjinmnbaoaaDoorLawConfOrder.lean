/- Servers stand in the order of their lines: turned about, it is another config, with the same numbers, but of one server. No condition. -/
import Derived.Test.YtdcmjjinmnbaoaaDoorME
import Derived.Test.YtdcmjjinmnbaoaaDoorMF
import Derived.Test.YtdcmjjinmnbaoaaDoorMA
namespace Go.Proofs.YtdcmjjinmnbaoaaDoor.confOrder
open Go.ChangeShapes Go.WideShapes Go.ChangeAt Go.RowKit Go.Proofs.YtdcmjjinmnbaoaaDoor
set_option linter.unusedVariables false

theorem rev_ok {xs : List Int} (h : SrvOk xs) : SrvOk xs.reverse := ⟨(List.reverse_perm xs).nodup_iff.2 h.1, by simpa using h.2.1, by simpa using h.2.2⟩
theorem check_rev {a : Cfg} (h : checkC a = 0) : checkC { a with srv := a.srv.reverse } = 0 := by
  have hf := check_fine h
  have hne : a.srv.reverse ≠ [] := by intro e; have := hf.some_; simp at e; rw [e] at this; simp at this
  refine check_ok hne (rev_ok (fine_srv hf)) ?_
  rw [List.length_reverse]
  exact hf.num
theorem same_rev {a : Cfg} (h : checkC a = 0) : sameC { a with srv := a.srv.reverse } a = ((a.srv.length : Int) == 1) := by
  have hf := check_fine h
  have h1 := hf.some_
  have hs := fine_srv hf
  by_cases hl : a.srv.length = 1
  · obtain ⟨x, hx⟩ := List.length_eq_one_iff.1 hl
    have : ((a.srv.length : Int) == 1) = true := by rw [hl]; rfl
    rw [this]
    exact same_yes (by rw [hx]; simp [eqI]) rfl rfl rfl rfl rfl
  · have : ((a.srv.length : Int) == 1) = false := beq_eq_false_iff_ne.mpr (by omega)
    rw [this]
    refine same_no (Or.inl (eqI_at (k := 0) ?_))
    have e1 : a.srv.reverse.getD 0 0 = a.srv[a.srv.length - 1] := by
      simp [List.getD, List.getElem?_reverse (show 0 < a.srv.length by omega), show a.srv.length - 1 < a.srv.length by omega]
    have e2 : a.srv.getD 0 0 = a.srv[0] := by simp [List.getD, show 0 < a.srv.length by omega]
    show a.srv.reverse.getD 0 0 ≠ a.srv.getD 0 0
    rw [e1, e2]
    intro e
    have hn := hs.1
    rw [List.nodup_iff_pairwise_ne, List.pairwise_iff_getElem] at hn
    exact hn 0 (a.srv.length - 1) (by omega) (by omega) (by omega) e.symm
theorem rev_take {xs : List Int} {i : Nat} (h : i < xs.length) : xs.reverse.take (i + 1) = xs.reverse.take i ++ [xs.getD (xs.length - 1 - i) 0] := by
  rw [List.take_add_one]
  congr 1
  rw [List.getElem?_reverse h]
  simp [List.getD, show xs.length - 1 - i < xs.length by omega]

set_option maxRecDepth 100000 in
set_option maxHeartbeats 16000000 in
theorem walk (a : Cfg) (pa : Option Addr) (ca : Nat) (w : World) (ia : IntsL w pa a.srv) (la : a.srv.length ≤ ca) (hL : LaidN w) :
    Calls Tryd.prog 7 #[a.val pa ca] w fun e w' => e = .returned (.bool true) ∧ Mod NoB w w' := by
  have hmw : Mod NoB w (w.alloc (.cells #[.slice pa a.srv.length ca, .int .i64 a.q, .int .i64 a.l, .int .i64 a.m, .int .i64 a.d, .int .i64 a.s] 25)) := (Mod.refl _ _).alloc _
  have hb0 := heap_alloc_new w (.cells #[.slice pa a.srv.length ca, .int .i64 a.q, .int .i64 a.l, .int .i64 a.m, .int .i64 a.d, .int .i64 a.s] 25)
  obtain ⟨W1, hW1⟩ : ∃ W1, w.alloc (.cells #[.slice pa a.srv.length ca, .int .i64 a.q, .int .i64 a.l, .int .i64 a.m, .int .i64 a.d, .int .i64 a.s] 25) = W1 := ⟨_, rfl⟩
  rw [hW1] at hmw hb0
  replace hL := hide hL
  have hm : Hid (Mod NoB w W1) := hide hmw
  replace ia := hide (ia.mod0 hmw)
  obtain ⟨a0, a1, a2, a3, a4, a5, -⟩ := six_of hb0
  replace hW1 := hide hW1
  replace hb0 := hide hb0
  clear hmw
  go_enter Tryd.func7, Tryd.ntmps7
  go_upto_region 1 with (fail)
  rw [hW1.out]
  by_cases h1 : 50 < a.srv.length
  · skip
    go_wp2_with fail
    refine (calive_any _ (hL.out.mod hm.out)).mono ?_
    rintro e w3 ⟨rfl, hm2⟩
    replace hm := hide (hm.out.trans hm2)
    clear hm2
    go_wp2
    go_ret
    exact ⟨rfl, hm.out⟩
  · obtain ⟨f, hf⟩ : ∃ f, checkC a = f := ⟨_, rfl⟩
    have hck := fun w' (i : IntsL w' pa a.srv) => check_any pa a.srv ca a.q a.l a.m a.d a.s w' i la (by omega)
    have hf' : checkR a.srv a.q a.l a.m a.d a.s = f := hf
    rw [hf'] at hck
    replace hck := hide hck
    replace hf' := hide hf'
    have hl50 : decide ((50 : Int) < (a.srv.length : Int)) = false := by simp; omega
    go_wp2_with fail
    refine (hck.out _ ia.out).mono ?_
    rintro e W2 ⟨rfl, hm2⟩
    replace hm := hide (hm.out.trans hm2)
    replace ia := hide (ia.out.mod0 hm2)
    replace hb0 := hide (hm2.heap hb0.out id)
    clear hm2 a0 a1 a2 a3 a4 a5
    obtain ⟨a0, a1, a2, a3, a4, a5, -⟩ := six_of hb0.out
    by_cases hf0 : f = 0
    · subst hf0
      have hfi := check_fine hf
      have hn1 := hfi.some_
      have hz : ((a.srv.length : Int) == 0) = false := beq_eq_false_iff_ne.mpr (by omega)
      have hrev := hide (check_rev hf)
      have hsr := hide (same_rev hf)
      replace hf := hide hf
      replace hfi := hide hfi
      have lt0 := lt_of_cell a0
      go_wp2_with fail
      obtain ⟨W3, hW3⟩ : ∃ W3, W2.alloc (.cells #[.slice none 0 0, .int .i64 a.q, .int .i64 a.l, .int .i64 a.m, .int .i64 a.d, .int .i64 a.s] 25) = W3 := ⟨_, rfl⟩
      have hm2 : Mod NoB W2 W3 := by rw [← hW3]; exact (Mod.refl _ _).alloc _
      have hbd : Hid (W3.heap[W2.heap.size]? = some (.cells #[.slice none 0 0, .int .i64 a.q, .int .i64 a.l, .int .i64 a.m, .int .i64 a.d, .int .i64 a.s] 25 (0, 0))) := hide (by rw [← hW3]; exact heap_alloc_new _ _)
      have hsz3 : W3.heap.size = W2.heap.size + 1 := by rw [← hW3]; simp
      rw [hW3]
      replace hW3 := hide hW3
      replace hm := hide (hm.out.trans hm2)
      have ia2 := hide ia.out
      replace ia := hide (ia.out.mod0 hm2)
      replace hb0 := hide (hm2.heap hb0.out id)
      have hmd := hide hm2
      clear hm2 a0 a1 a2 a3 a4 a5
      obtain ⟨bd, hbdn⟩ : ∃ bd, W2.heap.size = bd := ⟨_, rfl⟩
      rw [hbdn] at hbd lt0 hsz3 ⊢
      replace hbdn := hide hbdn
      obtain ⟨i0, hi, hz0, hz1, hz2⟩ := info_parts infoInt
      replace hi := hide hi
      replace hz0 := hide hz0
      replace hz1 := hide hz1
      replace hz2 := hide hz2
      replace hsz3 := hide hsz3
      go_loopw [40] (fun vi wr => ∃ i : Nat, i ≤ a.srv.length ∧ vi = .int .i64 i ∧ CfgAt (bd + 1) bd { a with srv := a.srv.reverse.take i } wr ∧ Mod (bd ≤ ·) W3 wr) (fun vi _ => a.srv.length - (intOf vi).toNat)
      case atStart => exact ⟨0, by omega, rfl, ⟨_, hbd.out, World.ownsRow_nil _ _ _ _⟩, Mod.refl _ _⟩
      case round =>
        obtain ⟨i, hil, rfl, hC, hmr⟩ := hrel
        have hb0r := hmr.heap hb0.out (by omega)
        have q0 := cell_of_block hb0r 0 (v := .slice pa a.srv.length ca) rfl
        replace hb0r := hide hb0r
        by_cases hlt : i < a.srv.length
        · obtain ⟨sv, hcb, hown⟩ := hC
          obtain ⟨sp, sn, sc, rfl⟩ := own_slice hown
          obtain ⟨hsn, -, -⟩ := own_ints hown
          have hrt := rev_take hlt
          obtain ⟨b, off, hp, hblt, hcell⟩ := ia2.out (a.srv.length - 1 - i) (by omega)
          rw [hbdn.out] at hblt
          replace hcell := hmr.cellAt (by omega) (hmd.out.cellAt id hcell)
          subst hp
          have hlen : (a.srv.reverse.take i).length = i := by simp; omega
          change sn = (a.srv.reverse.take i).length at hsn
          rw [hlen] at hsn
          subst hsn
          change wr.ownsRow (bd + 1) 3 1 (.slice sp sn sc) (a.srv.reverse.take sn).length ((a.srv.reverse.take sn).map (.int .i64)) at hown
          rw [hlen] at hown
          obtain ⟨j, hj⟩ : ∃ j, a.srv.length - 1 - sn = j := ⟨_, rfl⟩
          rw [hj] at hcell hrt
          have hji : ((a.srv.length : Int) - 1 - (sn : Int)) = (j : Int) := by omega
          have hw1 : IntKind.i64.wrap ((a.srv.length : Int) - 1) = (a.srv.length : Int) - 1 := IntWalk.i64_in _ (by omega)
          have hw2 : IntKind.i64.wrap ((a.srv.length : Int) - 1 - (sn : Int)) = (j : Int) := by rw [hji]; exact IntWalk.i64_in _ (by omega)
          have hj0 : (0 : Int) ≤ (j : Int) := by omega
          have hj1 : (j : Int) < (a.srv.length : Int) := by omega
          generalize a.srv.getD j 0 = x at hcell hrt
          have c0 := cell_of_block hcb 0 (v := .slice sp sn sc) rfl
          have f0 := frozen_of_block hcb 0
          have hsz : bd + 1 ≤ wr.heap.size := by have := hmr.size; have := hsz3.out; omega
          have lt1 := lt_of_cell c0
          have lt2 := lt_of_cell hcell
          have lt3 := lt_of_cell q0
          replace hrt := hide hrt
          replace hlen := hide hlen
          replace hown := hide hown
          replace hcb := hide hcb
          replace hmr := hide hmr
          replace hji := hide hji
          replace hj := hide hj
          go_wp2_with fail
          go_region_law (
            (refine step_append_own rfl (.tmp 44) (.tmp 55) 23 rfl (bd + 1) 3 i0 (.int .i64 0) 1 8 Tryd.underlying23 hi.out hz0.out hz1.out hz2.out rfl (by decide) (.slice sp sn sc) sn ((a.srv.reverse.take sn).map (.int .i64)) rfl ?zzo ⟨_, 0, none⟩ 1 1 [.int .i64 x] rfl rfl ?zzn ?zzone ?zzm ?zzmb ?zzbase ?_; (case zzo => exact (ownsRow_mod (S := NoB) hown.out ((Mod.refl _ _).alloc _).drew (fun _ f => f.elim))); (case zzn => exact cell_one_new _ _ _); (case zzone => (intro u hu; simp at hu; subst hu; rfl)); (case zzm => (unfold maxLen; omega)); (case zzmb => omega); (case zzbase => (simp; omega)); intro v' w7 hown' hgrow _; obtain ⟨p', n', c', rfl⟩ := own_slice hown'; have hm7 : Mod (fun x => bd + 1 ≤ x) wr w7 := Mod.grownIn (((Mod.refl _ _).alloc _).drew) hgrow (own_ge hown.out); have hb7 := hm7.heap hcb.out (by omega); have d1 := cell_of_block hb7 0 (v := .slice sp sn sc) rfl; have d2 := frozen_of_block hb7 0; replace hown' := hide hown'; replace hb7 := hide hb7; replace hm7 := hide hm7; clear hgrow))
          all_goals
            have hset : Mod (· = bd) w7 (w7.setCell ⟨bd, 0, none⟩ (.slice p' n' c')) := (Mod.refl _ _).set1 _ _
            have hcf : (w7.setCell ⟨bd, 0, none⟩ (.slice p' n' c')).heap[bd]? = some (.cells #[.slice p' n' c', .int .i64 a.q, .int .i64 a.l, .int .i64 a.m, .int .i64 a.d, .int .i64 a.s] 25 (0, 0)) := by
              rw [heap_setCell_eq hb7.out]; simp
            have hof := ownsRow_mod (S := (· = bd)) hown'.out hset (fun b e => by omega)
            have hcm : Hid (CfgAt (bd + 1) bd { a with srv := a.srv.reverse.take (sn + 1) } (w7.setCell ⟨bd, 0, none⟩ (.slice p' n' c'))) := hide ⟨_, hcf, by
              show World.ownsRow _ _ _ _ _ (a.srv.reverse.take (sn + 1)).length ((a.srv.reverse.take (sn + 1)).map (.int .i64))
              rw [hrt.out, List.length_append, hlen.out]
              simpa using hof⟩
            have hmf : Hid (Mod (bd ≤ ·) W3 (w7.setCell ⟨bd, 0, none⟩ (.slice p' n' c'))) := hide ((hmr.out.trans (hm7.out.mono (fun x _ h => by show bd ≤ x; omega))).trans (hset.mono (fun x _ h => by show bd ≤ x; omega)))
            clear hset hcf hof
            go_wp2_with fail
            go_roundw
            case rel => exact ⟨sn + 1, by omega, by go_num, hcm.out, hmf.out⟩
            case measure => simp [intOf]; omega
        · obtain rfl : i = a.srv.length := by omega
          have hrt : a.srv.reverse.take a.srv.length = a.srv.reverse := List.take_of_length_le (by simp)
          rw [hrt] at hC
          obtain ⟨sv, hcb, hown⟩ := hC
          obtain ⟨sp, sn, sc, rfl⟩ := own_slice hown
          obtain ⟨rfl, hints, -⟩ := own_ints hown
          have hsc : a.srv.reverse.length ≤ sc := by
            rcases hown.2 with ⟨h1, h2⟩ | ⟨g, cap', cur, hv, _, _, hc, _⟩
            · rw [h2]; exact Nat.zero_le _
            · simp only [Value.slice.injEq] at hv; change a.srv.reverse.length ≤ cap' at hc; omega
          have ia3 : IntsL wr pa a.srv := fun j hj => by
            obtain ⟨b, off, h1, h2, h3⟩ := ia2.out j hj
            rw [hbdn.out] at h2
            have := hmr.size
            have := hsz3.out
            exact ⟨b, off, h1, by omega, hmr.cellAt (by omega) (hmd.out.cellAt id h3)⟩
          have hmw2 : Mod NoB w wr := by
            exact hm.out.into hmr (fun b h => Or.inr (by have h' : bd ≤ b := h; omega))
          have hlr : (a.srv.reverse.length : Int) = (a.srv.length : Int) := by simp
          replace hm := hide hmw2
          replace ia := hide ia3
          have hb0' := hide hb0r.out
          have hrd : checkR a.srv.reverse a.q a.l a.m a.d a.s = 0 := hrev.out
          have hpr := print_any sp a.srv.reverse sc a.q a.l a.m a.d a.s wr hints hsc (by simp; omega) (hL.out.mod hmw2)
          unfold PrintOut at hpr
          rw [hrd, if_pos rfl] at hpr
          have hpp := parse_print (a := { a with srv := a.srv.reverse }) hrev.out
          have hlp : (printT a.srv.reverse a.q a.l a.m a.d a.s).length ≤ 9223372036854775807 := by have := printT_len (a := { a with srv := a.srv.reverse }) (check_fine hrev.out); simp at this; omega
          have hqq := fun w' (h : LaidN w') => parse_any _ hlp w' h
          change parseR (printT a.srv.reverse a.q a.l a.m a.d a.s) = _ at hpp
          rw [hpp] at hqq
          obtain ⟨tx, htx⟩ : ∃ tx, printT a.srv.reverse a.q a.l a.m a.d a.s = tx := ⟨_, rfl⟩
          rw [htx] at hqq hpr
          obtain ⟨d, hd⟩ : ∃ d : Cfg, { a with srv := a.srv.reverse } = d := ⟨_, rfl⟩
          have hds : a.srv.reverse = d.srv := by rw [← hd]
          have e1 : a.q = d.q := by rw [← hd]
          have e2 : a.l = d.l := by rw [← hd]
          have e3 : a.m = d.m := by rw [← hd]
          have e4 : a.d = d.d := by rw [← hd]
          have e5 : a.s = d.s := by rw [← hd]
          have hsr' := hsr.out
          rw [hd] at hqq hsr'
          have hcb' : wr.heap[bd]? = some (.cells #[.slice sp d.srv.length sc, .int .i64 d.q, .int .i64 d.l, .int .i64 d.m, .int .i64 d.d, .int .i64 d.s] 25 (0, 0)) := by
            rw [← hds, ← e1, ← e2, ← e3, ← e4, ← e5]; exact hcb
          rw [hds] at hints hsc hpr
          rw [e1, e2, e3, e4, e5] at hpr
          have hld : d.srv.length ≤ 50 := by rw [← hds]; simp; omega
          obtain ⟨d0, d1, d2, d3, d4, d5, -⟩ := six_of hcb'
          replace hints := hide hints
          replace hcb' := hide hcb'
          replace hqq := hide hqq
          replace hpr := hide hpr
          replace hds := hide hds
          replace e1 := hide e1
          replace e2 := hide e2
          replace e3 := hide e3
          replace e4 := hide e4
          replace e5 := hide e5
          replace hd := hide hd
          replace hown := hide hown
          replace hcb := hide hcb
          replace hmr := hide hmr
          clear hrt hlr hrd hpp hlp htx hmw2
          go_wp2_with fail
          refine hpr.out.mono ?_
          rintro e w3 ⟨rfl, hm2⟩
          replace hm := hide (hm.out.trans hm2)
          replace ia := hide (ia.out.mod0 hm2)
          replace hints := hide (hints.out.mod0 hm2)
          replace hcb' := hide (hm2.heap hcb'.out id)
          replace hb0' := hide (hm2.heap hb0'.out id)
          clear hm2 d0 d1 d2 d3 d4 d5 q0
          go_wp2_with fail
          refine (hqq.out _ (hL.out.mod hm.out)).mono ?_
          rintro e w4 ⟨ho, hm2⟩
          obtain ⟨px, cx, rfl, ix, lx, -, -⟩ := ho.vals rfl rfl rfl
          replace ix := hide ix
          clear ho
          replace hm := hide (hm.out.trans hm2)
          replace ia := hide (ia.out.mod0 hm2)
          replace hints := hide (hints.out.mod0 hm2)
          replace hcb' := hide (hm2.heap hcb'.out id)
          replace hb0' := hide (hm2.heap hb0'.out id)
          clear hm2
          go_wp2_with fail
          obtain ⟨V5, hV5⟩ : ∃ V5, w4.alloc (.cells #[.slice px d.srv.length cx, .int .i64 d.q, .int .i64 d.l, .int .i64 d.m, .int .i64 d.d, .int .i64 d.s] 25) = V5 := ⟨_, rfl⟩
          have hm2 : Mod NoB w4 V5 := by rw [← hV5]; exact (Mod.refl _ _).alloc _
          have hbx : V5.heap[w4.heap.size]? = some (.cells #[.slice px d.srv.length cx, .int .i64 d.q, .int .i64 d.l, .int .i64 d.m, .int .i64 d.d, .int .i64 d.s] 25 (0, 0)) := by rw [← hV5]; exact heap_alloc_new _ _
          rw [hV5]
          replace hV5 := hide hV5
          replace hm := hide (hm.out.trans hm2)
          replace ia := hide (ia.out.mod0 hm2)
          replace ix := hide (ix.out.mod0 hm2)
          replace hints := hide (hints.out.mod0 hm2)
          replace hcb' := hm2.heap hcb'.out id
          replace hb0' := hm2.heap hb0'.out id
          clear hm2
          have x0 := Since.cell (cell_of_block hbx 0 rfl)
          have x1 := Since.cell (cell_of_block hbx 1 rfl)
          have x2 := Since.cell (cell_of_block hbx 2 rfl)
          have x3 := Since.cell (cell_of_block hbx 3 rfl)
          have x4 := Since.cell (cell_of_block hbx 4 rfl)
          have x5 := Since.cell (cell_of_block hbx 5 rfl)
          have y0 := Since.cell (cell_of_block hcb' 0 rfl)
          have y1 := Since.cell (cell_of_block hcb' 1 rfl)
          have y2 := Since.cell (cell_of_block hcb' 2 rfl)
          have y3 := Since.cell (cell_of_block hcb' 3 rfl)
          have y4 := Since.cell (cell_of_block hcb' 4 rfl)
          have y5 := Since.cell (cell_of_block hcb' 5 rfl)
          have z0 := Since.cell (cell_of_block hb0' 0 rfl)
          have z1 := Since.cell (cell_of_block hb0' 1 rfl)
          have z2 := Since.cell (cell_of_block hb0' 2 rfl)
          have z3 := Since.cell (cell_of_block hb0' 3 rfl)
          have z4 := Since.cell (cell_of_block hb0' 4 rfl)
          have z5 := Since.cell (cell_of_block hb0' 5 rfl)
          replace hbx := hide hbx
          replace hcb' := hide hcb'
          replace hb0' := hide hb0'
          have hsc2 : sameC d d = true := same_yes (eqI_all rfl fun _ _ => rfl) rfl rfl rfl rfl rfl
          have k1 := fun (y : Since V5) => Since.call y (fun w' h => calive_any w' (hL.out.mod (hm.out.trans h)))
          have k2 := fun (y : Since V5) => Since.call y (fun w' h => csame_any d d px sp cx sc w' (ix.out.mod0 h) (hints.out.mod0 h) (by omega))
          have k3 := fun (y : Since V5) => Since.call y (fun w' h => csame_any d a px pa cx ca w' (ix.out.mod0 h) (ia.out.mod0 h) (by omega))
          rw [hsc2] at k2
          rw [hsr'] at k3
          replace k1 := hide k1
          replace k2 := hide k2
          replace k3 := hide k3
          clear hsc2 hsr'
          refine wp_region_mod (by kernel_rfl) (by kernel_rfl) ?_
          repeat (go_big_quiet_step ((first | (go_at_call 9; exact k1.out _) | (go_at_call 16; first | with_reducible exact k2.out _ | with_reducible exact k3.out _))))
          refine wpQuiet_nil ?_
          rintro w5 ⟨⟨w5', hm5⟩, hw5⟩
          obtain rfl : w5 = w5' := hw5
          clear x0 x1 x2 x3 x4 x5 y0 y1 y2 y3 y4 y5 z0 z1 z2 z3 z4 z5
          replace hm := hide (hm.out.trans hm5)
          clear hm5
          go_wp2
          go_ret
          exact ⟨bool_ret (by simp), hm.out⟩
    · have hfb : (f != 0) = true := by simpa [bne_iff_ne] using hf0
      clear hf0
      replace hf := hide hf
      go_wp2_with fail
      refine (calive_any _ (hL.out.mod hm.out)).mono ?_
      rintro e w3 ⟨rfl, hm2⟩
      replace hm := hide (hm.out.trans hm2)
      clear hm2
      go_wp2
      go_ret
      exact ⟨rfl, hm.out⟩

theorem own : ownKnob Tryd.prog.godebug = none := by kernel_rfl

theorem laid_met (os : Os) : laidMet Tryd.prog Rows.confOrderRow.laid ((World.laidAll Tryd.prog os Rows.confOrderRow.laid).forCall (fun _ _ => 0) ⟨#[], #[.agg #[.slice none 0 0, .int .i64 0, .int .i64 0, .int .i64 0, .int .i64 0, .int .i64 0]], []⟩).memory :=
  laidMet_laidAll _ (by kernel_rfl) (by kernel_rfl)
theorem reads (os : Os) {H : Type} (enc : TypeId × Value → H) : ∃ places, DataW.whole enc Tryd.prog ((World.laidAll Tryd.prog os Rows.confOrderRow.laid).forCall (fun _ _ => 0) ⟨#[], #[.agg #[.slice none 0 0, .int .i64 0, .int .i64 0, .int .i64 0, .int .i64 0, .int .i64 0]], []⟩).memory Tryd.f7.params.toList Rows.confOrderSpec.vars false #[.agg #[.slice none 0 0, .int .i64 0, .int .i64 0, .int .i64 0, .int .i64 0, .int .i64 0]].toList 8 = some ([.agg [.nil, .lit (.int .i64 0), .lit (.int .i64 0), .lit (.int .i64 0), .lit (.int .i64 0), .lit (.int .i64 0)]], [], places) :=
  ⟨[], by kernel_rfl⟩

set_option maxRecDepth 100000 in
theorem lifted (os : Os) (started : os.Started) (H : Type) (enc : TypeId × Value → H) (F : Stop.Interp) :
    ReturnsInHanded {} Tryd.checked os 7 .any ((OpenSpec.ofChange Rows.confOrderSpec).preRow enc Tryd.prog Tryd.f7 Rows.confOrderRow.domain false Rows.confOrderRow.laid) (((OpenSpec.ofChange Rows.confOrderSpec).at F).post enc Tryd.prog Tryd.f7 false true false false) := by
  obtain ⟨places, hx⟩ := reads os enc
  refine law_row (C := Tryd.checked) (bt := 4) own started (by kernel_rfl) Tryd.func7 (by kernel_rfl) (by kernel_rfl) (by kernel_rfl) Tryd.underlying4 rfl ?_ rfl
    (witness_row_atRef (enc := enc) (C := Tryd.checked) false (World.laidAll Tryd.prog os Rows.confOrderRow.laid) #[.agg #[.slice none 0 0, .int .i64 0, .int .i64 0, .int .i64 0, .int .i64 0, .int .i64 0]] (World.laidAll_os _ _ _) (by kernel_rfl) (by kernel_rfl) (by kernel_rfl)
      (OpenSpec.preRow_of_cond 8 hx (by kernel_rfl) (fun k hk => by cases hk) (by kernel_rfl) (laid_met os))) ?_
  · intro ds h
    match ds, h with
    | [d0], _ => rfl
  · intro W base args ds ps hval0 hA0 hsz hL hsh
    have hval : ∀ (j : Nat) t v, Tryd.f7.params[j]? = some t → args[j]? = some v → Value.okWide Tryd.prog W .any base t v := hval0
    have hA : DataW.TrodAll enc Tryd.prog W 0 (fun _ => true) true Tryd.f7.params.toList args.toList ds ps := hA0
    have hLd := laidN_of (by simp [Rows.confOrderRow]) (by simp [Rows.confOrderRow]) (by simp [Rows.confOrderRow]) hL
    rw [Tryd.params7] at hA hval
    obtain ⟨v0, d0, rfl, rfl, h0⟩ := trodAll_one hA
    obtain ⟨a, pa, ca, rfl, ia, la, ma, ka⟩ := open_cfg (hval 0 _ _ rfl rfl) h0
    exact walk a pa ca W ia la hLd

theorem said : Rows.ConfOrderSaid :=
  OpenClaim.holds_of_cond 7 Tryd.f7 rfl rfl rfl rfl rfl rfl rfl ⟨rfl, rfl, rfl, rfl, rfl⟩ rfl rfl rfl rfl rfl (by kernel_rfl) Tryd.func7 (by kernel_rfl)
    (of_decide_eq_true (by kernel_rfl)) (by unfold Func.isWrapper; first | (rw [if_pos (by decide +kernel)]; kernel_rfl) | (rw [if_neg (by decide +kernel)]; exact ⟨rfl, rfl⟩))
    (fun os started H enc _ F => by rw [OpenClaim.pre_eq_preRow]; exact lifted os started H enc F)

theorem plain (f : FuncId) (fn : Func) (hf : Tryd.pinned.checked.prog.funcNamed "chronobate/chronobatelaw06.ConfOrder" = some f) (hfn : Tryd.pinned.checked.prog.funcs[f]? = some fn) :
    true = Tryd.pinned.checked.prog.looks [] ∧ ∀ (j : Nat) t, fn.params[j]? = some t → Tryd.pinned.checked.prog.wantsStandIn t = false := by
  obtain rfl : f = 7 := Option.some.inj ((show Tryd.prog.funcNamed "chronobate/chronobatelaw06.ConfOrder" = some 7 by kernel_rfl).symm.trans hf) |>.symm
  obtain rfl : fn = Tryd.f7 := (Option.some.inj (Tryd.func7.symm.trans hfn)).symm
  refine ⟨by kernel_rfl, fun j t ht => ?_⟩
  have hall : (Tryd.f7.params.toList.all fun t => !(Tryd.prog.wantsStandIn t)) = true := by kernel_rfl
  have := List.all_eq_true.1 hall t (Array.mem_toList_iff.2 (Array.mem_of_getElem? ht))
  have h2 : Tryd.prog.wantsStandIn t = false := by simpa using this
  exact h2

theorem proved : Rows.ConfOrderCardSaid :=
  Claim7.holds_tied_plain_at .later [] _ _ _ _ said (fun _ h => by cases h) (by kernel_rfl) (fun _ h => by cases h) confOrder_row_tie rfl ⟨rfl, rfl⟩ (by kernel_rfl) rfl plain (by kernel_rfl)
#print axioms proved
end Go.Proofs.YtdcmjjinmnbaoaaDoor.confOrder
