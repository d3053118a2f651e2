/- Of any numbers each is counted, or refused, as the document has it; all counts, and their text. No condition. -/
import Derived.Test.YtffcklhoeejlfaaDoorCoG
namespace Go.Proofs.YtffcklhoeejlfaaDoor.countAdds
open Go.ChangeShapes Go.WideShapes Go.ChangeAt Go.RowKit Go.Proofs.YtffcklhoeejlfaaDoor
set_option linter.unusedVariables false

set_option maxHeartbeats 8000000 in
theorem walk (x : Option Addr) (n cap : Nat) (hn : n ≤ cap) (hcap : cap ≤ 9223372036854775807) (Z : Nat → Int) (w : World) (hZ : IntsAt .i64 w x n Z) (hwf : ∀ j, j < n → (Lit.int .i64 (Z j)).wf = true) (hL : Laid w) :
    Calls Tryd.prog 3 #[.slice x n cap] w fun e w' => e = .returned (.bool true) ∧ Mod NoB w w' := by
  replace hL := hide hL
  replace hZ := hide hZ
  replace hwf := hide hwf
  go_enter Tryd.func3, Tryd.ntmps3
  go_wp2_with fail
  refine (new_any _).mono ?_
  rintro e w1 ⟨b, rfl, hle, hb, hm⟩
  replace hb := hide hb
  replace hm := hide hm
  go_wp2_with fail
  refine (alive_any _ (hL.out.mod hm.out)).mono ?_
  rintro e w2 ⟨rfl, hm2⟩
  replace hb := hide (hb.out.heap hm2 id)
  replace hm := hide (hm.out.trans hm2)
  clear hm2
  by_cases hn3 : 1000 < n
  · go_wp2_with fail
    refine (alive_any _ (hL.out.mod hm.out)).mono ?_
    rintro e w3 ⟨rfl, hm3⟩
    replace hm := hide (hm.out.trans hm3)
    clear hm3
    go_wp2
    go_ret
    exact ⟨rfl, hm.out⟩
  · go_wp2_with fail
    have hblt := lt_of_block hb.out.1
    go_loopw [26] (fun i wr => ∃ (k : Nat) (c : List Int), k ≤ n ∧ i = .int .i64 k ∧ CO wr b c ∧ AO wr w2.heap.size c ∧ (∀ q, 0 ≤ c.getD q 0 ∧ c.getD q 0 ≤ k) ∧ Mod NoB w wr)
      (fun i _ => n - (intOf i).toNat)
    case atStart => exact ⟨0, zero13, by omega, rfl, hb.out.heap ((Mod.refl NoB _).alloc _) id, ⟨heap_alloc_new _ _, rfl⟩, fun q => by rw [zero13_at]; omega, hm.out.alloc _⟩
    case round =>
      obtain ⟨k, c, hk, rfl, hco, hao, hcq, hmr⟩ := hrel
      by_cases hlt : k < n
      · obtain ⟨bl, off, rfl, hbl, hcs⟩ := hZ.out k hlt
        have hc : wr.cell? ⟨bl, off + k, none⟩ = some (.int .i64 (Z k)) := (hmr.below.cell (p := ⟨bl, off + k, none⟩) hbl).trans (hcs k hlt)
        have hzw := i64_of_wf (hwf.out k hlt)
        obtain ⟨hz1, hz2⟩ := hzw
        generalize Z k = z at hc hz1 hz2
        replace hcs := hide hcs
        replace hco := hide hco
        replace hcq := hide hcq
        replace hmr := hide hmr
        by_cases hr : z < 0 ∨ 12 < z
        · replace hao := hide hao
          replace hr := hide hr
          have hr1 := hr.out
          by_cases hz0 : z < 0
          all_goals
            clear hr1
            go_wp2_with fail
            refine (add_kind b z ⟨hz1, hz2⟩ hr.out _).mono ?_
            rintro e w' ⟨rfl, rfl⟩
            try (have hz12 : 12 < z := by have := hr.out; omega)
            go_wp2_with fail
            refine (of_out _ z ⟨hz1, hz2⟩ hr.out _).mono ?_
            rintro e w4 ⟨rfl, hm4⟩
            replace hco := hide (hco.out.heap hm4 id)
            replace hao := hide (hao.out.heap hm4 id)
            replace hmr := hide (hmr.out.trans hm4)
            clear hm4
            go_wp2
            go_roundw
            case rel => exact ⟨k + 1, c, by omega, by go_num, hco.out, hao.out, fun q => by have := hcq.out q; omega, hmr.out⟩
            case measure => simp [intOf]; omega
        · obtain ⟨j, rfl⟩ := Int.eq_ofNat_of_zero_le (show 0 ≤ z by omega)
          have hj : j < 13 := by omega
          have hb0 := bump_in hco.out.2 hcq.out j hj
          replace hb0 := hide hb0
          clear hr
          go_wp2_with fail
          refine (add_any b j c _ hco.out hj (hcq.out j).1 (by have := (hcq.out j).2; omega)).mono ?_
          rintro e w4 ⟨rfl, hco2, hm4⟩
          have hna : b ≠ w2.heap.size := by omega
          replace hao := hao.heap hm4 (by omega)
          have hcell := hao.cell j hj
          have hfr := frozen_of_block hao.1 j
          obtain ⟨y1, y2⟩ := hcq.out j
          have hset := hide (hao.set j (c.getD j 0 + 1))
          have hcof := hide (hco2.heap ((Mod.refl (· = w2.heap.size) w4).set1 j (.int .i64 (c.getD j 0 + 1))) (by omega))
          replace hao := hide hao
          replace hmr := hide (hmr.out.into hm4 fun q hq => Or.inr (by omega))
          have hw2 : w.heap.size ≤ w2.heap.size := hm.out.size
          have hmr2 := hide (hmr.out.setCell (p := ⟨w2.heap.size, j, none⟩) (Or.inr hw2) (.int .i64 (c.getD j 0 + 1)))
          have hgd := hide (at_set c hco.out.2 j j hj (c.getD j 0 + 1))
          clear hm4 hco2
          generalize hc2 : c.set j (c.getD j 0 + 1) = c2 at hset hcof hb0 hgd
          replace hc2 := hide hc2
          generalize c.getD j 0 = y at hcell y1 y2 hset hcof hmr2 hgd
          go_wp2_with fail
          have hof := of_any b j c2
          have hcell2 : ∀ w'', Mod NoB (w4.setCell ⟨w2.heap.size, j, none⟩ (.int .i64 (y + 1))) w'' → w''.cell? ⟨w2.heap.size, j, none⟩ = some (.int .i64 (y + 1)) := fun w'' hq => (by
            have := (hset.out.heap hq id).cell j hj
            rw [this, hgd.out]; simp)
          replace hof := hide hof
          have hgd2 : c2.getD j 0 = y + 1 := by rw [hgd.out]; simp
          replace hgd2 := hide hgd2
          have hcell1 : (w4.setCell ⟨w2.heap.size, j, none⟩ (.int .i64 (y + 1))).cell? ⟨w2.heap.size, j, none⟩ = some (.int .i64 (y + 1)) := hcell2 _ (Mod.refl _ _)
          clear hcell hfr
          go_region_with ((go_at_call 10; refine (hof.out _ (hcof.out.heap (Mod.refl NoB _).drew id) hj).mono ?_; rintro e w5 ⟨rfl, hm5⟩; rw [hgd2.out]; have hm6 := (Mod.refl NoB _).drew.trans hm5))
          all_goals
            have hco5 := hide (hcof.out.heap hm6 id)
            have hao5 := hide (hset.out.heap hm6 id)
            have hmr5 := hide (hmr2.out.trans hm6)
            clear hm5 hm6 hcell2 hcell1
            go_wp2
            go_roundw
            case rel => exact ⟨k + 1, c2, by omega, by go_num, hco5.out, hao5.out, fun q => by have := hb0.out q; omega, hmr5.out⟩
            case measure => simp [intOf]; omega
      · obtain rfl : k = n := by omega
        replace hco := hide hco
        replace hmr := hide hmr
        have hin : ∀ q, 0 ≤ c.getD q 0 ∧ c.getD q 0 ≤ 9007199254740992 := fun q => by have := hcq q; omega
        have hcl := hide hao.2
        have hsi := fun q => sumTo_in c hin q
        replace hin := hide hin
        replace hcq := hide hcq
        replace hsi := hide hsi
        have hab := hide hao.1
        replace hao := hide hao
        go_wp2_with (refine wpList_load_row rfl 26 _ rfl w2.heap.size rfl _ _ _ _ hab.out Tryd.underlying26 rfl (by rw [List.size_toArray, List.length_map, hcl.out]; kernel_rfl) ?_)
        go_loopw [8, 65] (fun s i wr => ∃ q : Nat, q ≤ 13 ∧ i = .int .i64 q ∧ s = .int .i64 (sumTo c q) ∧ CO wr b c ∧ AO wr w2.heap.size c ∧ Mod NoB w wr) (fun _ i _ => 13 - (intOf i).toNat)
        case atStart => exact ⟨0, by omega, rfl, rfl, hco.out, hao.out, hmr.out⟩
        case round =>
          clear hco hao hmr hab
          obtain ⟨q, hq, rfl, rfl, hco, hao, hmr⟩ := hrel
          replace hco := hide hco
          replace hao := hide hao
          replace hmr := hide hmr
          obtain ⟨hs1, hs2⟩ := hsi.out q
          by_cases hlq : q < 13
          · have hix := run_index_ints 26 Tryd.underlying26 c hcl.out q hlq
            obtain ⟨y1, y2⟩ := hin.out q
            have hof := hide (of_any b q c wr hco.out hlq)
            have hnx : Hid (sumTo c (q + 1) = sumTo c q + if q = 0 then 0 else c.getD q 0) := hide rfl
            generalize c.getD q 0 = y at hix y1 y2 hof hnx
            by_cases hq0 : q = 0
            · subst hq0
              have hix : ∀ w, (Instr.index 26 (ints c) (.int .i64 0)).run Tryd.prog w = .ok (.int .i64 y) w := hix
              go_wp2_with fail
              refine hof.out.mono ?_
              rintro e w5 ⟨rfl, hm5⟩
              replace hco := hide (hco.out.heap hm5 id)
              replace hao := hide (hao.out.heap hm5 id)
              replace hmr := hide (hmr.out.trans hm5)
              clear hm5
              go_wp2
              go_roundw
              case rel => exact ⟨1, by omega, by go_num, by rw [hnx.out]; simp, hco.out, hao.out, hmr.out⟩
              case measure => simp [intOf]
            · go_wp2_with fail
              refine hof.out.mono ?_
              rintro e w5 ⟨rfl, hm5⟩
              replace hco := hide (hco.out.heap hm5 id)
              replace hao := hide (hao.out.heap hm5 id)
              replace hmr := hide (hmr.out.trans hm5)
              clear hm5
              go_wp2
              go_roundw
              case rel => exact ⟨q + 1, by omega, by go_num, by rw [hnx.out, if_neg hq0], hco.out, hao.out, hmr.out⟩
              case measure => simp [intOf]; omega
          · obtain rfl : q = 13 := by omega
            go_wp2_with fail
            match c, hcl.out with
            | [c0, c1, c2, c3, c4, c5, c6, c7, c8, c9, c10, c11, c12], _ =>
            have hA0 : ∀ w'', Mod NoB wr w'' → w''.cell? ⟨w2.heap.size, 0, none⟩ = some (.int .i64 c0) := fun w'' hq => (hao.out.heap hq id).cell 0 (by omega)
            have hA1 : ∀ w'', Mod NoB wr w'' → w''.cell? ⟨w2.heap.size, 1, none⟩ = some (.int .i64 c1) := fun w'' hq => (hao.out.heap hq id).cell 1 (by omega)
            have hA2 : ∀ w'', Mod NoB wr w'' → w''.cell? ⟨w2.heap.size, 2, none⟩ = some (.int .i64 c2) := fun w'' hq => (hao.out.heap hq id).cell 2 (by omega)
            have hA3 : ∀ w'', Mod NoB wr w'' → w''.cell? ⟨w2.heap.size, 3, none⟩ = some (.int .i64 c3) := fun w'' hq => (hao.out.heap hq id).cell 3 (by omega)
            have hA4 : ∀ w'', Mod NoB wr w'' → w''.cell? ⟨w2.heap.size, 4, none⟩ = some (.int .i64 c4) := fun w'' hq => (hao.out.heap hq id).cell 4 (by omega)
            have hA5 : ∀ w'', Mod NoB wr w'' → w''.cell? ⟨w2.heap.size, 5, none⟩ = some (.int .i64 c5) := fun w'' hq => (hao.out.heap hq id).cell 5 (by omega)
            have hA6 : ∀ w'', Mod NoB wr w'' → w''.cell? ⟨w2.heap.size, 6, none⟩ = some (.int .i64 c6) := fun w'' hq => (hao.out.heap hq id).cell 6 (by omega)
            have hA7 : ∀ w'', Mod NoB wr w'' → w''.cell? ⟨w2.heap.size, 7, none⟩ = some (.int .i64 c7) := fun w'' hq => (hao.out.heap hq id).cell 7 (by omega)
            have hA8 : ∀ w'', Mod NoB wr w'' → w''.cell? ⟨w2.heap.size, 8, none⟩ = some (.int .i64 c8) := fun w'' hq => (hao.out.heap hq id).cell 8 (by omega)
            have hA9 : ∀ w'', Mod NoB wr w'' → w''.cell? ⟨w2.heap.size, 9, none⟩ = some (.int .i64 c9) := fun w'' hq => (hao.out.heap hq id).cell 9 (by omega)
            have hA10 : ∀ w'', Mod NoB wr w'' → w''.cell? ⟨w2.heap.size, 10, none⟩ = some (.int .i64 c10) := fun w'' hq => (hao.out.heap hq id).cell 10 (by omega)
            have hA11 : ∀ w'', Mod NoB wr w'' → w''.cell? ⟨w2.heap.size, 11, none⟩ = some (.int .i64 c11) := fun w'' hq => (hao.out.heap hq id).cell 11 (by omega)
            have hA12 : ∀ w'', Mod NoB wr w'' → w''.cell? ⟨w2.heap.size, 12, none⟩ = some (.int .i64 c12) := fun w'' hq => (hao.out.heap hq id).cell 12 (by omega)
            have href := refused_of (at0 b) [c0, c1, c2, c3, c4, c5, c6, c7, c8, c9, c10, c11, c12] rfl hin.out
            have htx := text_of (at0 b) [c0, c1, c2, c3, c4, c5, c6, c7, c8, c9, c10, c11, c12] rfl
            have hrt := rtext_any [c0, c1, c2, c3, c4, c5, c6, c7, c8, c9, c10, c11, c12] rfl
            obtain ⟨J, hJ⟩ : ∃ J, Lib.join (ents [c0, c1, c2, c3, c4, c5, c6, c7, c8, c9, c10, c11, c12] 13) [44, 32] = J := ⟨_, rfl⟩
            obtain ⟨s, hs⟩ : ∃ s, sumTo [c0, c1, c2, c3, c4, c5, c6, c7, c8, c9, c10, c11, c12] 13 = s := ⟨_, rfl⟩
            rw [hJ] at htx hrt
            rw [hs] at href ⊢
            replace href := hide href
            replace htx := hide htx
            replace hrt := hide hrt
            replace hs := hide hs
            replace hJ := hide hJ
            clear hs1 hs2
            have hm0 : Mod NoB wr wr := Mod.refl _ _
            go_region_law (first
              | (go_simp; go_at_call 11; refine (href.out _ (all_any b _ _ (hco.out.heap (Mod.refl NoB wr).drew id))).mono ?_; rintro e w5 ⟨rfl, hm5⟩; replace hm5 : Mod NoB wr w5 := (Mod.refl NoB wr).drew.trans hm5)
              | (go_simp; go_at_call 12; refine (htx.out _ (all_any b _ _ (hco.out.heap hm5 id)) hin.out (hL.out.mod (hmr.out.trans hm5))).mono ?_; rintro e w6 ⟨rfl, hm6⟩; replace hm6 : Mod NoB wr w6 := hm5.trans hm6)
              | (go_simp; go_at_call 13; refine (hrt.out _ hin.out).mono ?_; rintro e w7 ⟨rfl, hm7⟩; replace hm7 : Mod NoB wr w7 := hm6.trans hm7))
            all_goals
              replace hm7 := hide hm7
              clear hm5 hm6 hm0 hA0 hA1 hA2 hA3 hA4 hA5 hA6 hA7 hA8 hA9 hA10 hA11 hA12
              go_wp2
              go_ret
              exact ⟨bool_ret (by first | rfl | simp), hmr.out.trans hm7.out⟩

theorem own : ownKnob Tryd.prog.godebug = none := by kernel_rfl

theorem laid_met (os : Os) : laidMet Tryd.prog Rows.countAddsRow.laid ((laidWorld os).forCall (fun _ _ => 0) ⟨#[], #[.slice none 0 0], []⟩).memory :=
  laidMet_of_run' 8 (by kernel_rfl) (by kernel_rfl)
theorem reads (os : Os) {H : Type} (enc : TypeId × Value → H) : ∃ places, DataW.whole enc Tryd.prog ((laidWorld os).forCall (fun _ _ => 0) ⟨#[], #[.slice none 0 0], []⟩).memory Tryd.f3.params.toList Rows.countAddsSpec.vars false #[.slice none 0 0].toList 8 = some ([.nil], [], places) :=
  ⟨[], by kernel_rfl⟩

set_option maxRecDepth 100000 in
theorem lifted (os : Os) (started : os.Started) (H : Type) (enc : TypeId × Value → H) (F : Stop.Interp) :
    ReturnsInHanded {} Tryd.checked os 3 .any ((OpenSpec.ofChange Rows.countAddsSpec).preRow enc Tryd.prog Tryd.f3 Rows.countAddsRow.domain false Rows.countAddsRow.laid) (((OpenSpec.ofChange Rows.countAddsSpec).at F).post enc Tryd.prog Tryd.f3 false true false false) := by
  obtain ⟨places, hx⟩ := reads os enc
  refine law_row (C := Tryd.checked) (bt := 4) own started (by kernel_rfl) Tryd.func3 (by kernel_rfl) (by kernel_rfl) (by kernel_rfl) Tryd.underlying4 rfl ?_ rfl
    (witness_row_at (enc := enc) (C := Tryd.checked) false (laidWorld os) #[.slice none 0 0] rfl (by kernel_rfl) (by kernel_rfl) (by kernel_rfl)
      (OpenSpec.preRow_of_cond 8 hx (by kernel_rfl) (fun k hk => by cases hk) (by kernel_rfl) (laid_met os))) ?_
  · intro ds h
    match ds, h with
    | [d0], _ => rfl
  · intro W base args ds ps hval0 hA0 hsz hL hsh
    have hval : ∀ (j : Nat) t v, Tryd.f3.params[j]? = some t → args[j]? = some v → Value.okWide Tryd.prog W .any base t v := hval0
    have hA : DataW.TrodAll enc Tryd.prog W 0 (fun _ => true) true Tryd.f3.params.toList args.toList ds ps := hA0
    have hLd : Laid W := laid_of hL
    rw [Tryd.params3] at hA hval
    obtain ⟨v0, d0, rfl, rfl, h0⟩ := trodAll_one hA
    obtain ⟨x, n, cap, Z, rfl, hn, hcap, hZ, hwf⟩ := open_intsAt Tryd.underlying22 Tryd.underlying3 (by kernel_rfl) (hval 0 _ _ rfl rfl) h0
    exact walk x n cap hn hcap Z W hZ hwf hLd

theorem said : Rows.CountAddsSaid :=
  OpenClaim.holds_of_cond 3 Tryd.f3 rfl rfl rfl rfl rfl rfl rfl ⟨rfl, rfl, rfl, rfl, rfl⟩ rfl rfl rfl rfl rfl (by kernel_rfl) Tryd.func3 (by kernel_rfl)
    (of_decide_eq_true (by kernel_rfl)) (by unfold Func.isWrapper; first | (rw [if_pos (by decide +kernel)]; kernel_rfl) | (rw [if_neg (by decide +kernel)]; exact ⟨rfl, rfl⟩))
    (fun os started H enc _ F => by rw [OpenClaim.pre_eq_preRow]; exact lifted os started H enc F)

theorem plain (f : FuncId) (fn : Func) (hf : Tryd.pinned.checked.prog.funcNamed "chronobate/chronobatelaw16.CountAdds" = some f) (hfn : Tryd.pinned.checked.prog.funcs[f]? = some fn) :
    false = Tryd.pinned.checked.prog.looks [] ∧ ∀ (j : Nat) t, fn.params[j]? = some t → Tryd.pinned.checked.prog.wantsStandIn t = false := by
  obtain rfl : f = 3 := Option.some.inj ((show Tryd.prog.funcNamed "chronobate/chronobatelaw16.CountAdds" = some 3 by kernel_rfl).symm.trans hf) |>.symm
  obtain rfl : fn = Tryd.f3 := (Option.some.inj (Tryd.func3.symm.trans hfn)).symm
  refine ⟨by kernel_rfl, fun j t ht => ?_⟩
  have hall : (Tryd.f3.params.toList.all fun t => !(Tryd.prog.wantsStandIn t)) = true := by kernel_rfl
  have := List.all_eq_true.1 hall t (Array.mem_toList_iff.2 (Array.mem_of_getElem? ht))
  have h2 : Tryd.prog.wantsStandIn t = false := by simpa using this
  exact h2

theorem proved : Rows.CountAddsCardSaid :=
  Claim7.holds_tied_plain_at .later [] _ _ _ _ said (fun _ h => by cases h) (by kernel_rfl) (fun _ h => by cases h) countAdds_row_tie rfl ⟨rfl, rfl⟩ (by kernel_rfl) rfl plain (by kernel_rfl)
#print axioms proved
end Go.Proofs.YtffcklhoeejlfaaDoor.countAdds
