/- Of any config what is wrong is the document's, its text, and whether two are the same. No condition. -/
import Derived.Test.YtdcmjjinmnbaoaaDoorME
namespace Go.Proofs.YtdcmjjinmnbaoaaDoor.confChecks
open Go.ChangeShapes Go.WideShapes Go.ChangeAt Go.RowKit Go.Proofs.YtdcmjjinmnbaoaaDoor
set_option linter.unusedVariables false

set_option maxRecDepth 100000 in
set_option maxHeartbeats 16000000 in
theorem walk (a b : Cfg) (pa pb : Option Addr) (ca cb : Nat) (w : World) (ia : IntsL w pa a.srv) (ib : IntsL w pb b.srv) (la : a.srv.length ≤ ca) (lb : b.srv.length ≤ cb) (hL : LaidN w) :
    Calls Tryd.prog 4 #[a.val pa ca, b.val pb cb] w fun e w' => e = .returned (.bool true) ∧ Mod NoB w w' := by
  obtain ⟨W2, hW2, hb0, hb1, hmw⟩ := two_boxes w (.cells #[.slice pa a.srv.length ca, .int .i64 a.q, .int .i64 a.l, .int .i64 a.m, .int .i64 a.d, .int .i64 a.s] 25) (.cells #[.slice pb b.srv.length cb, .int .i64 b.q, .int .i64 b.l, .int .i64 b.m, .int .i64 b.d, .int .i64 b.s] 25)
  replace hL := hide hL
  have hm : Hid (Mod NoB w W2) := hide hmw
  replace ia := hide (ia.mod0 hmw)
  replace ib := hide (ib.mod0 hmw)
  obtain ⟨a0, a1, a2, a3, a4, a5, -⟩ := six_of hb0
  obtain ⟨b0, b1, b2, b3, b4, b5, -⟩ := six_of hb1
  replace hW2 := hide hW2
  replace hb0 := hide hb0
  replace hb1 := hide hb1
  clear hmw
  go_enter Tryd.func4, Tryd.ntmps4
  go_upto_region 1 with (fail)
  rw [hW2.out]
  by_cases h100 : 100 < a.srv.length ∨ 100 < b.srv.length
  · rcases h100 with h1 | h1
    · skip
      go_wp2_with fail
      refine (calive_any _ (hL.out.mod hm.out)).mono ?_
      rintro e w3 ⟨rfl, hm2⟩
      replace hm := hide (hm.out.trans hm2)
      clear hm2
      go_wp2
      go_ret
      exact ⟨rfl, hm.out⟩
    · by_cases h2 : 100 < a.srv.length
      · skip
        go_wp2_with fail
        refine (calive_any _ (hL.out.mod hm.out)).mono ?_
        rintro e w3 ⟨rfl, hm2⟩
        replace hm := hide (hm.out.trans hm2)
        clear hm2
        go_wp2
        go_ret
        exact ⟨rfl, hm.out⟩
      · skip
        go_wp2_with fail
        refine (calive_any _ (hL.out.mod hm.out)).mono ?_
        rintro e w3 ⟨rfl, hm2⟩
        replace hm := hide (hm.out.trans hm2)
        clear hm2
        go_wp2
        go_ret
        exact ⟨rfl, hm.out⟩
  · have h1 : ¬ 100 < a.srv.length := fun h => h100 (Or.inl h)
    have h2 : ¬ 100 < b.srv.length := fun h => h100 (Or.inr h)
    clear h100
    have hprint := hide (print_any pa a.srv ca a.q a.l a.m a.d a.s W2 ia.out la (by omega) (hL.out.mod hm.out))
    obtain ⟨f, hf⟩ : ∃ f, checkC a = f := ⟨_, rfl⟩
    have hf' : checkR a.srv a.q a.l a.m a.d a.s = f := hf
    unfold PrintOut at hprint
    rw [hf'] at hprint
    obtain ⟨tx, htx⟩ : ∃ tx, (if f = 0 then printT a.srv a.q a.l a.m a.d a.s else []) = tx := ⟨_, rfl⟩
    rw [htx] at hprint
    replace htx := hide htx
    replace hprint := hide hprint.out
    have hfine := hide (fun (h : f = 0) => check_fine (hf'.trans h))
    replace hf := hide hf
    replace hf' := hide hf'
    go_wp2_with fail
    refine hprint.out.mono ?_
    rintro e w3 ⟨rfl, hm2⟩
    have hb03 := hm2.heap hb0.out id
    have hb13 := hm2.heap hb1.out id
    replace hm := hide (hm.out.trans hm2)
    replace ia := hide (ia.out.mod0 hm2)
    replace ib := hide (ib.out.mod0 hm2)
    clear hm2 a0 a1 a2 a3 a4 a5 b0 b1 b2 b3 b4 b5
    obtain ⟨a0, a1, a2, a3, a4, a5, -⟩ := six_of hb03
    replace hb03 := hide hb03
    replace hb13 := hide hb13
    have hck := rcheck_any pa a.srv ca a.q a.l a.m a.d a.s w3 ia.out (by omega)
    rw [hf'.out] at hck
    replace hck := hide hck
    go_wp2_with fail
    refine hck.out.mono ?_
    rintro e w4 ⟨rfl, hm2⟩
    have hb04 := hm2.heap hb03.out id
    have hb14 := hm2.heap hb13.out id
    replace hm := hide (hm.out.trans hm2)
    replace ia := hide (ia.out.mod0 hm2)
    replace ib := hide (ib.out.mod0 hm2)
    clear hm2 a0 a1 a2 a3 a4 a5
    obtain ⟨a0, a1, a2, a3, a4, a5, -⟩ := six_of hb04
    obtain ⟨b0, b1, b2, b3, b4, b5, -⟩ := six_of hb14
    replace hb04 := hide hb04
    have y0 := Since.cell a0
    have y1 := Since.cell a1
    have y2 := Since.cell a2
    have y3 := Since.cell a3
    have y4 := Since.cell a4
    have y5 := Since.cell a5
    have z0 := Since.cell b0
    have z1 := Since.cell b1
    have z2 := Since.cell b2
    have z3 := Since.cell b3
    have z4 := Since.cell b4
    have z5 := Since.cell b5
    replace hb14 := hide hb14
    clear a0 a1 a2 a3 a4 a5 b0 b1 b2 b3 b4 b5
    have hsc : sameC a a = true := same_yes (eqI_all rfl fun _ _ => rfl) rfl rfl rfl rfl rfl
    obtain ⟨sab, hsab⟩ : ∃ s, sameC a b = s := ⟨_, rfl⟩
    have k1 := fun (y : Since w4) => Since.call y (fun w' h => check_any pa a.srv ca a.q a.l a.m a.d a.s w' (ia.out.mod0 h) la (by omega))
    have k2 := fun (y : Since w4) => Since.call y (fun w' h => csame_any a b pa pb ca cb w' (ia.out.mod0 h) (ib.out.mod0 h) (by omega))
    have k3 := fun (y : Since w4) => Since.call y (fun w' h => csame_any a a pa pa ca ca w' (ia.out.mod0 h) (ia.out.mod0 h) (by omega))
    have k4 := fun (y : Since w4) => Since.call y (fun w' h => rsame_any a b pa pb ca cb w' (ia.out.mod0 h) (ib.out.mod0 h) (by omega))
    rw [hf'.out] at k1
    rw [hsab] at k2 k4
    rw [hsc] at k3
    replace k1 := hide k1
    replace k2 := hide k2
    replace k3 := hide k3
    replace k4 := hide k4
    clear hsc hsab
    go_wp2_with fail
    refine wp_region_mod (by kernel_rfl) (by kernel_rfl) ?_
    repeat (go_big_quiet_step ((first | (go_at_call 15; exact k1.out _) | (go_at_call 16; first | with_reducible exact k2.out _ | with_reducible exact k3.out _) | (go_at_call 12; exact k4.out _))))
    refine wpQuiet_nil ?_
    rintro w5 ⟨⟨w5', hm5⟩, hw5⟩
    obtain rfl : w5 = w5' := hw5
    clear y0 y1 y2 y3 y4 y5 z0 z1 z2 z3 z4 z5
    by_cases hf0 : f = 0
    · have hfb : (f != 0) = false := by rw [hf0]; rfl
      have hb05 := hm5.heap hb04.out id
      obtain ⟨a0, a1, a2, a3, a4, a5, -⟩ := six_of hb05
      have hm5' := hide hm5
      have hrp := hide (rprint_any pa a.srv ca a.q a.l a.m a.d a.s)
      have hf2 := hide (hfine.out hf0)
      have htx2 : Hid (printT a.srv a.q a.l a.m a.d a.s = tx) := hide (by rw [← htx.out, if_pos hf0])
      replace hf0 := hide hf0
      replace hb05 := hide hb05
      go_wp2_with fail
      refine (calive_any _ (hL.out.mod (hm.out.trans hm5'.out))).mono ?_
      rintro e w6 ⟨rfl, hm6⟩
      have hb06 := hm6.heap hb05.out id
      clear a0 a1 a2 a3 a4 a5
      obtain ⟨a0, a1, a2, a3, a4, a5, -⟩ := six_of hb06
      have hia6 := hide (ia.out.mod0 (hm5'.out.trans hm6))
      replace hm := hide (hm.out.trans (hm5'.out.trans hm6))
      replace hb06 := hide hb06
      clear hm6
      go_wp2_with fail
      refine (hrp.out _ hia6.out hf2.out).mono ?_
      rintro e w7 ⟨rfl, hm7⟩
      rw [htx2.out]
      replace hm := hide (hm.out.trans hm7)
      clear hm7
      go_wp2
      go_ret
      exact ⟨bool_ret (by simp), hm.out⟩
    · have hfb : (f != 0) = true := by simpa [bne_iff_ne] using hf0
      have htx2 : tx = [] := by rw [← htx.out, if_neg hf0]
      subst htx2
      have hm5' := hide hm5
      replace hf0 := hide hf0
      go_wp2_with fail
      refine (calive_any _ (hL.out.mod (hm.out.trans hm5'.out))).mono ?_
      rintro e w6 ⟨rfl, hm6⟩
      replace hm := hide (hm.out.trans (hm5'.out.trans hm6))
      clear hm6
      go_wp2
      go_ret
      exact ⟨bool_ret (by simp), hm.out⟩

theorem own : ownKnob Tryd.prog.godebug = none := by kernel_rfl

theorem laid_met (os : Os) : laidMet Tryd.prog Rows.confChecksRow.laid ((World.laidAll Tryd.prog os Rows.confChecksRow.laid).forCall (fun _ _ => 0) ⟨#[], #[.agg #[.slice none 0 0, .int .i64 0, .int .i64 0, .int .i64 0, .int .i64 0, .int .i64 0], .agg #[.slice none 0 0, .int .i64 0, .int .i64 0, .int .i64 0, .int .i64 0, .int .i64 0]], []⟩).memory :=
  laidMet_laidAll _ (by kernel_rfl) (by kernel_rfl)
theorem reads (os : Os) {H : Type} (enc : TypeId × Value → H) : ∃ places, DataW.whole enc Tryd.prog ((World.laidAll Tryd.prog os Rows.confChecksRow.laid).forCall (fun _ _ => 0) ⟨#[], #[.agg #[.slice none 0 0, .int .i64 0, .int .i64 0, .int .i64 0, .int .i64 0, .int .i64 0], .agg #[.slice none 0 0, .int .i64 0, .int .i64 0, .int .i64 0, .int .i64 0, .int .i64 0]], []⟩).memory Tryd.f4.params.toList Rows.confChecksSpec.vars false #[.agg #[.slice none 0 0, .int .i64 0, .int .i64 0, .int .i64 0, .int .i64 0, .int .i64 0], .agg #[.slice none 0 0, .int .i64 0, .int .i64 0, .int .i64 0, .int .i64 0, .int .i64 0]].toList 8 = some ([.agg [.nil, .lit (.int .i64 0), .lit (.int .i64 0), .lit (.int .i64 0), .lit (.int .i64 0), .lit (.int .i64 0)], .agg [.nil, .lit (.int .i64 0), .lit (.int .i64 0), .lit (.int .i64 0), .lit (.int .i64 0), .lit (.int .i64 0)]], [], places) :=
  ⟨[], by kernel_rfl⟩

set_option maxRecDepth 100000 in
theorem lifted (os : Os) (started : os.Started) (H : Type) (enc : TypeId × Value → H) (F : Stop.Interp) :
    ReturnsInHanded {} Tryd.checked os 4 .any ((OpenSpec.ofChange Rows.confChecksSpec).preRow enc Tryd.prog Tryd.f4 Rows.confChecksRow.domain false Rows.confChecksRow.laid) (((OpenSpec.ofChange Rows.confChecksSpec).at F).post enc Tryd.prog Tryd.f4 false true false false) := by
  obtain ⟨places, hx⟩ := reads os enc
  refine law_row (C := Tryd.checked) (bt := 4) own started (by kernel_rfl) Tryd.func4 (by kernel_rfl) (by kernel_rfl) (by kernel_rfl) Tryd.underlying4 rfl ?_ rfl
    (witness_row_atRef (enc := enc) (C := Tryd.checked) false (World.laidAll Tryd.prog os Rows.confChecksRow.laid) #[.agg #[.slice none 0 0, .int .i64 0, .int .i64 0, .int .i64 0, .int .i64 0, .int .i64 0], .agg #[.slice none 0 0, .int .i64 0, .int .i64 0, .int .i64 0, .int .i64 0, .int .i64 0]] (World.laidAll_os _ _ _) (by kernel_rfl) (by kernel_rfl) (by kernel_rfl)
      (OpenSpec.preRow_of_cond 8 hx (by kernel_rfl) (fun k hk => by cases hk) (by kernel_rfl) (laid_met os))) ?_
  · intro ds h
    match ds, h with
    | [d0, d1], _ => rfl
  · intro W base args ds ps hval0 hA0 hsz hL hsh
    have hval : ∀ (j : Nat) t v, Tryd.f4.params[j]? = some t → args[j]? = some v → Value.okWide Tryd.prog W .any base t v := hval0
    have hA : DataW.TrodAll enc Tryd.prog W 0 (fun _ => true) true Tryd.f4.params.toList args.toList ds ps := hA0
    have hLd := laidN_of (by simp [Rows.confChecksRow]) (by simp [Rows.confChecksRow]) (by simp [Rows.confChecksRow]) hL
    rw [Tryd.params4] at hA hval
    obtain ⟨v0, v1, d0, d1, p0, p1, rfl, rfl, rfl, h0, h1⟩ := trodAll_two hA
    obtain ⟨a, pa, ca, rfl, ia, la, ma, ka⟩ := open_cfg (hval 0 _ _ rfl rfl) h0
    obtain ⟨b, pb, cb, rfl, ib, lb, mb, kb⟩ := open_cfg (hval 1 _ _ rfl rfl) h1
    exact walk a b pa pb ca cb W ia ib la lb hLd

theorem said : Rows.ConfChecksSaid :=
  OpenClaim.holds_of_cond 4 Tryd.f4 rfl rfl rfl rfl rfl rfl rfl ⟨rfl, rfl, rfl, rfl, rfl⟩ rfl rfl rfl rfl rfl (by kernel_rfl) Tryd.func4 (by kernel_rfl)
    (of_decide_eq_true (by kernel_rfl)) (by unfold Func.isWrapper; first | (rw [if_pos (by decide +kernel)]; kernel_rfl) | (rw [if_neg (by decide +kernel)]; exact ⟨rfl, rfl⟩))
    (fun os started H enc _ F => by rw [OpenClaim.pre_eq_preRow]; exact lifted os started H enc F)

theorem plain (f : FuncId) (fn : Func) (hf : Tryd.pinned.checked.prog.funcNamed "chronobate/chronobatelaw06.ConfChecks" = some f) (hfn : Tryd.pinned.checked.prog.funcs[f]? = some fn) :
    true = Tryd.pinned.checked.prog.looks [] ∧ ∀ (j : Nat) t, fn.params[j]? = some t → Tryd.pinned.checked.prog.wantsStandIn t = false := by
  obtain rfl : f = 4 := Option.some.inj ((show Tryd.prog.funcNamed "chronobate/chronobatelaw06.ConfChecks" = some 4 by kernel_rfl).symm.trans hf) |>.symm
  obtain rfl : fn = Tryd.f4 := (Option.some.inj (Tryd.func4.symm.trans hfn)).symm
  refine ⟨by kernel_rfl, fun j t ht => ?_⟩
  have hall : (Tryd.f4.params.toList.all fun t => !(Tryd.prog.wantsStandIn t)) = true := by kernel_rfl
  have := List.all_eq_true.1 hall t (Array.mem_toList_iff.2 (Array.mem_of_getElem? ht))
  have h2 : Tryd.prog.wantsStandIn t = false := by simpa using this
  exact h2

theorem proved : Rows.ConfChecksCardSaid :=
  Claim7.holds_tied_plain_at .later [] _ _ _ _ said (fun _ h => by cases h) (by kernel_rfl) (fun _ h => by cases h) confChecks_row_tie rfl ⟨rfl, rfl⟩ (by kernel_rfl) rfl plain (by kernel_rfl)
#print axioms proved
end Go.Proofs.YtdcmjjinmnbaoaaDoor.confChecks
