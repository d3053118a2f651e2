/- Two configs are the same just if their texts are; a config without one of its servers isn't the same. No condition. -/
import Derived.Test.YtdcmjjinmnbaoaaDoorME
import Derived.Test.YtdcmjjinmnbaoaaDoorMF
namespace Go.Proofs.YtdcmjjinmnbaoaaDoor.confSame
open Go.ChangeShapes Go.WideShapes Go.ChangeAt Go.RowKit Go.Proofs.YtdcmjjinmnbaoaaDoor
set_option linter.unusedVariables false

theorem same_eq {a b : Cfg} (h : sameC a b = true) : a = b := by
  unfold sameC at h
  simp only [Bool.and_eq_true, beq_iff_eq] at h
  obtain ⟨⟨⟨⟨⟨h1, h2⟩, h3⟩, h4⟩, h5⟩, h6⟩ := h
  unfold eqI at h1
  rw [beq_iff_eq] at h1
  cases a; cases b; simp at *; exact ⟨h1, h2, h3, h4, h5, h6⟩
theorem same_self (a : Cfg) : sameC a a = true := same_yes (eqI_all rfl fun _ _ => rfl) rfl rfl rfl rfl rfl
theorem same_print {a b : Cfg} (ha : checkC a = 0) (hb : checkC b = 0) : sameC a b = (printT a.srv a.q a.l a.m a.d a.s == printT b.srv b.q b.l b.m b.d b.s) := by
  have h1 := parse_print ha
  have h2 := parse_print hb
  cases hs : sameC a b with
  | true =>
    obtain rfl := same_eq hs
    simp
  | false =>
    symm
    rw [beq_eq_false_iff_ne]
    intro e
    rw [e, h2] at h1
    have : b = a := congrArg Prod.fst h1
    rw [this, same_self] at hs
    cases hs
theorem same_cut {a : Cfg} (h : a.srv ≠ []) : sameC a { a with srv := a.srv.take (a.srv.length - 1) } = false := by
  refine same_no (Or.inl (eqI_len ?_))
  have : 0 < a.srv.length := List.length_pos_iff.2 h
  simp; omega

set_option maxRecDepth 100000 in
set_option maxHeartbeats 16000000 in
theorem walk (a b : Cfg) (pa pb : Option Addr) (ca cb : Nat) (w : World) (ia : IntsL w pa a.srv) (ib : IntsL w pb b.srv) (la : a.srv.length ≤ ca) (lb : b.srv.length ≤ cb) (hL : LaidN w) :
    Calls Tryd.prog 6 #[a.val pa ca, b.val pb cb] w fun e w' => e = .returned (.bool true) ∧ Mod NoB w w' := by
  obtain ⟨W2, hW2, hb0, hb1, hmw⟩ := two_boxes w (.cells #[.slice pa a.srv.length ca, .int .i64 a.q, .int .i64 a.l, .int .i64 a.m, .int .i64 a.d, .int .i64 a.s] 25) (.cells #[.slice pb b.srv.length cb, .int .i64 b.q, .int .i64 b.l, .int .i64 b.m, .int .i64 b.d, .int .i64 b.s] 25)
  replace hL := hide hL
  have hm : Hid (Mod NoB w W2) := hide hmw
  replace ia := hide (ia.mod0 hmw)
  replace ib := hide (ib.mod0 hmw)
  obtain ⟨a0, a1, a2, a3, a4, a5, -⟩ := six_of hb0
  obtain ⟨b0, b1, b2, b3, b4, b5, -⟩ := six_of hb1
  replace hW2 := hide hW2
  replace hb0 := hide hb0
  replace hb1 := hide hb1
  clear hmw
  go_enter Tryd.func6, Tryd.ntmps6
  go_upto_region 1 with (fail)
  rw [hW2.out]
  by_cases h50 : 50 < a.srv.length ∨ 50 < b.srv.length
  · rcases h50 with h1 | h1
    · skip
      go_wp2_with fail
      refine (calive_any _ (hL.out.mod hm.out)).mono ?_
      rintro e w3 ⟨rfl, hm2⟩
      replace hm := hide (hm.out.trans hm2)
      clear hm2
      go_wp2
      go_ret
      exact ⟨rfl, hm.out⟩
    · by_cases h2 : 50 < a.srv.length
      · skip
        go_wp2_with fail
        refine (calive_any _ (hL.out.mod hm.out)).mono ?_
        rintro e w3 ⟨rfl, hm2⟩
        replace hm := hide (hm.out.trans hm2)
        clear hm2
        go_wp2
        go_ret
        exact ⟨rfl, hm.out⟩
      · skip
        go_wp2_with fail
        refine (calive_any _ (hL.out.mod hm.out)).mono ?_
        rintro e w3 ⟨rfl, hm2⟩
        replace hm := hide (hm.out.trans hm2)
        clear hm2
        go_wp2
        go_ret
        exact ⟨rfl, hm.out⟩
  · have h1 : ¬ 50 < a.srv.length := fun h => h50 (Or.inl h)
    have h2 : ¬ 50 < b.srv.length := fun h => h50 (Or.inr h)
    clear h50
    have hpa := fun w' (h : LaidN w') (i : IntsL w' pa a.srv) => print_any pa a.srv ca a.q a.l a.m a.d a.s w' i la (by omega) h
    obtain ⟨f, hf⟩ : ∃ f, checkR a.srv a.q a.l a.m a.d a.s = f := ⟨_, rfl⟩
    unfold PrintOut at hpa
    simp only [hf] at hpa
    obtain ⟨tx, htx⟩ : ∃ t, (if f = 0 then printT a.srv a.q a.l a.m a.d a.s else []) = t := ⟨_, rfl⟩
    simp only [htx] at hpa
    replace hpa := hide hpa
    replace htx := hide htx
    replace hf := hide hf
    have hpb := fun w' (h : LaidN w') (i : IntsL w' pb b.srv) => print_any pb b.srv cb b.q b.l b.m b.d b.s w' i lb (by omega) h
    obtain ⟨f2, hf2⟩ : ∃ f, checkR b.srv b.q b.l b.m b.d b.s = f := ⟨_, rfl⟩
    unfold PrintOut at hpb
    simp only [hf2] at hpb
    obtain ⟨ty, hty⟩ : ∃ t, (if f2 = 0 then printT b.srv b.q b.l b.m b.d b.s else []) = t := ⟨_, rfl⟩
    simp only [hty] at hpb
    replace hpb := hide hpb
    replace hty := hide hty
    replace hf2 := hide hf2
    go_wp2_with fail
    refine (hpa.out _ (hL.out.mod hm.out) ia.out).mono ?_
    rintro e w3 ⟨rfl, hm2⟩
    replace hb0 := hide (hm2.heap hb0.out id)
    replace hb1 := hide (hm2.heap hb1.out id)
    replace ia := hide (ia.out.mod0 hm2)
    replace ib := hide (ib.out.mod0 hm2)
    replace hm := hide (hm.out.trans hm2)
    clear hm2
    clear a0 a1 a2 a3 a4 a5
    clear b0 b1 b2 b3 b4 b5
    obtain ⟨b0, b1, b2, b3, b4, b5, -⟩ := six_of hb1.out
    go_wp2_with fail
    refine (hpb.out _ (hL.out.mod hm.out) ib.out).mono ?_
    rintro e w4 ⟨rfl, hm2⟩
    replace hb0 := hide (hm2.heap hb0.out id)
    replace hb1 := hide (hm2.heap hb1.out id)
    replace ia := hide (ia.out.mod0 hm2)
    replace ib := hide (ib.out.mod0 hm2)
    replace hm := hide (hm.out.trans hm2)
    clear hm2
    clear b0 b1 b2 b3 b4 b5
    obtain ⟨a0, a1, a2, a3, a4, a5, -⟩ := six_of hb0.out
    by_cases hf0 : f = 0
    · skip
      by_cases hg0 : f2 = 0
      · skip
        subst hf0
        subst hg0
        have fa := check_fine hf.out
        have fb := check_fine hf2.out
        have hta : printT a.srv a.q a.l a.m a.d a.s = tx := by rw [← htx.out, if_pos rfl]
        have htb : printT b.srv b.q b.l b.m b.d b.s = ty := by rw [← hty.out, if_pos rfl]
        have hst : sameC a b = (tx == ty) := by rw [← hta, ← htb]; exact same_print hf.out hf2.out
        have hcut : sameC a { a with srv := a.srv.take (a.srv.length - 1) } = false := same_cut (by have := fa.some_; intro e; rw [e] at this; simp at this)
        have h1 := fa.some_
        have hcl : (a.srv.take (a.srv.length - 1)).length = a.srv.length - 1 := by simp
        obtain ⟨xs, hxs⟩ : ∃ xs, a.srv.take (a.srv.length - 1) = xs := ⟨_, rfl⟩
        have ix : IntsL w4 pa xs := by rw [← hxs]; exact ia.out.take _
        replace ix := hide ix
        rw [hxs] at hcut hcl
        replace hxs := hide hxs
        have hs1 := fun w' (i : IntsL w' pa a.srv) (j : IntsL w' pb b.srv) => csame_any a b pa pb ca cb w' i j (by omega)
        simp only [hst] at hs1
        have hs2 : ∀ w', IntsL w' pa a.srv → IntsL w' pa xs → Calls Tryd.prog 16 #[cfgV pa a.srv.length ca a.q a.l a.m a.d a.s, cfgV pa (a.srv.length - 1) ca a.q a.l a.m a.d a.s] w' fun e w'' => e = .returned (.bool false) ∧ Mod NoB w' w'' := fun w' i j => by have h := csame_any a { a with srv := xs } pa pa ca ca w' i j (by omega); rw [hcut] at h; rw [← hcl]; exact h
        replace hs1 := hide hs1
        replace hs2 := hide hs2
        replace hcl := hide hcl
        replace fa := hide fa
        replace fb := hide fb
        replace hta := hide hta
        replace htb := hide htb
        have hl1 : (1 : Int) ≤ (a.srv.length : Int) := by omega
        clear hst hcut h1
        have hsub : ((a.srv.length : Int) - 1).toNat = a.srv.length - 1 := by omega
        replace hsub := hide hsub
        have lt0 := lt_of_cell a0
        go_wp2_with fail
        obtain ⟨V5, hV5⟩ : ∃ V5, w4.alloc (.cells #[.slice pa (a.srv.length - 1) ca, .int .i64 a.q, .int .i64 a.l, .int .i64 a.m, .int .i64 a.d, .int .i64 a.s] 25) = V5 := ⟨_, rfl⟩
        have hm2 : Mod NoB w4 V5 := by rw [← hV5]; exact (Mod.refl _ _).alloc _
        have hb2 : Hid (V5.heap[w4.heap.size]? = some (.cells #[.slice pa (a.srv.length - 1) ca, .int .i64 a.q, .int .i64 a.l, .int .i64 a.m, .int .i64 a.d, .int .i64 a.s] 25 (0, 0))) := hide (by rw [← hV5]; exact heap_alloc_new _ _)
        rw [hV5]
        replace hV5 := hide hV5
        replace hb0 := hide (hm2.heap hb0.out id)
        replace hb1 := hide (hm2.heap hb1.out id)
        replace ia := hide (ia.out.mod0 hm2)
        replace ib := hide (ib.out.mod0 hm2)
        replace ix := hide (ix.out.mod0 hm2)
        replace hm := hide (hm.out.trans hm2)
        clear hm2
        clear a0 a1 a2 a3 a4 a5
        refine (calive_any _ (hL.out.mod hm.out)).mono ?_
        rintro e V6 ⟨rfl, hm2⟩
        replace hb0 := hide (hm2.heap hb0.out id)
        replace hb1 := hide (hm2.heap hb1.out id)
        replace hb2 := hide (hm2.heap hb2.out id)
        replace ia := hide (ia.out.mod0 hm2)
        replace ib := hide (ib.out.mod0 hm2)
        replace ix := hide (ix.out.mod0 hm2)
        replace hm := hide (hm.out.trans hm2)
        clear hm2
        obtain ⟨a0, a1, a2, a3, a4, a5, -⟩ := six_of hb0.out
        obtain ⟨b0, b1, b2, b3, b4, b5, -⟩ := six_of hb1.out
        go_wp2_with fail
        refine (hs1.out _ ia.out ib.out).mono ?_
        rintro e V7 ⟨rfl, hm2⟩
        replace hb0 := hide (hm2.heap hb0.out id)
        replace hb1 := hide (hm2.heap hb1.out id)
        replace hb2 := hide (hm2.heap hb2.out id)
        replace ia := hide (ia.out.mod0 hm2)
        replace ib := hide (ib.out.mod0 hm2)
        replace ix := hide (ix.out.mod0 hm2)
        replace hm := hide (hm.out.trans hm2)
        clear hm2
        clear a0 a1 a2 a3 a4 a5
        clear b0 b1 b2 b3 b4 b5
        obtain ⟨a0, a1, a2, a3, a4, a5, -⟩ := six_of hb0.out
        obtain ⟨x0, x1, x2, x3, x4, x5, -⟩ := six_of hb2.out
        go_wp2_with fail
        refine (hs2.out _ ia.out ix.out).mono ?_
        rintro e V8 ⟨rfl, hm2⟩
        replace hb0 := hide (hm2.heap hb0.out id)
        replace hb1 := hide (hm2.heap hb1.out id)
        replace hb2 := hide (hm2.heap hb2.out id)
        replace ia := hide (ia.out.mod0 hm2)
        replace ib := hide (ib.out.mod0 hm2)
        replace ix := hide (ix.out.mod0 hm2)
        replace hm := hide (hm.out.trans hm2)
        clear hm2
        clear a0 a1 a2 a3 a4 a5
        clear x0 x1 x2 x3 x4 x5
        go_wp2
        go_ret
        exact ⟨bool_ret (by simp), hm.out⟩
      · skip
        have hfb : (f2 != 0) = true := by simpa [bne_iff_ne] using hg0
        clear hg0
        go_wp2_with fail
        refine (calive_any _ (hL.out.mod hm.out)).mono ?_
        rintro e w1' ⟨rfl, hm2⟩
        replace hb0 := hide (hm2.heap hb0.out id)
        replace hb1 := hide (hm2.heap hb1.out id)
        replace ia := hide (ia.out.mod0 hm2)
        replace ib := hide (ib.out.mod0 hm2)
        replace hm := hide (hm.out.trans hm2)
        clear hm2
        go_wp2
        go_ret
        exact ⟨rfl, hm.out⟩
    · skip
      have hfb : (f != 0) = true := by simpa [bne_iff_ne] using hf0
      clear hf0
      go_wp2_with fail
      refine (calive_any _ (hL.out.mod hm.out)).mono ?_
      rintro e w1' ⟨rfl, hm2⟩
      replace hb0 := hide (hm2.heap hb0.out id)
      replace hb1 := hide (hm2.heap hb1.out id)
      replace ia := hide (ia.out.mod0 hm2)
      replace ib := hide (ib.out.mod0 hm2)
      replace hm := hide (hm.out.trans hm2)
      clear hm2
      go_wp2
      go_ret
      exact ⟨rfl, hm.out⟩

theorem own : ownKnob Tryd.prog.godebug = none := by kernel_rfl

theorem laid_met (os : Os) : laidMet Tryd.prog Rows.confSameRow.laid ((World.laidAll Tryd.prog os Rows.confSameRow.laid).forCall (fun _ _ => 0) ⟨#[], #[.agg #[.slice none 0 0, .int .i64 0, .int .i64 0, .int .i64 0, .int .i64 0, .int .i64 0], .agg #[.slice none 0 0, .int .i64 0, .int .i64 0, .int .i64 0, .int .i64 0, .int .i64 0]], []⟩).memory :=
  laidMet_laidAll _ (by kernel_rfl) (by kernel_rfl)
theorem reads (os : Os) {H : Type} (enc : TypeId × Value → H) : ∃ places, DataW.whole enc Tryd.prog ((World.laidAll Tryd.prog os Rows.confSameRow.laid).forCall (fun _ _ => 0) ⟨#[], #[.agg #[.slice none 0 0, .int .i64 0, .int .i64 0, .int .i64 0, .int .i64 0, .int .i64 0], .agg #[.slice none 0 0, .int .i64 0, .int .i64 0, .int .i64 0, .int .i64 0, .int .i64 0]], []⟩).memory Tryd.f6.params.toList Rows.confSameSpec.vars false #[.agg #[.slice none 0 0, .int .i64 0, .int .i64 0, .int .i64 0, .int .i64 0, .int .i64 0], .agg #[.slice none 0 0, .int .i64 0, .int .i64 0, .int .i64 0, .int .i64 0, .int .i64 0]].toList 8 = some ([.agg [.nil, .lit (.int .i64 0), .lit (.int .i64 0), .lit (.int .i64 0), .lit (.int .i64 0), .lit (.int .i64 0)], .agg [.nil, .lit (.int .i64 0), .lit (.int .i64 0), .lit (.int .i64 0), .lit (.int .i64 0), .lit (.int .i64 0)]], [], places) :=
  ⟨[], by kernel_rfl⟩

set_option maxRecDepth 100000 in
theorem lifted (os : Os) (started : os.Started) (H : Type) (enc : TypeId × Value → H) (F : Stop.Interp) :
    ReturnsInHanded {} Tryd.checked os 6 .any ((OpenSpec.ofChange Rows.confSameSpec).preRow enc Tryd.prog Tryd.f6 Rows.confSameRow.domain false Rows.confSameRow.laid) (((OpenSpec.ofChange Rows.confSameSpec).at F).post enc Tryd.prog Tryd.f6 false true false false) := by
  obtain ⟨places, hx⟩ := reads os enc
  refine law_row (C := Tryd.checked) (bt := 4) own started (by kernel_rfl) Tryd.func6 (by kernel_rfl) (by kernel_rfl) (by kernel_rfl) Tryd.underlying4 rfl ?_ rfl
    (witness_row_atRef (enc := enc) (C := Tryd.checked) false (World.laidAll Tryd.prog os Rows.confSameRow.laid) #[.agg #[.slice none 0 0, .int .i64 0, .int .i64 0, .int .i64 0, .int .i64 0, .int .i64 0], .agg #[.slice none 0 0, .int .i64 0, .int .i64 0, .int .i64 0, .int .i64 0, .int .i64 0]] (World.laidAll_os _ _ _) (by kernel_rfl) (by kernel_rfl) (by kernel_rfl)
      (OpenSpec.preRow_of_cond 8 hx (by kernel_rfl) (fun k hk => by cases hk) (by kernel_rfl) (laid_met os))) ?_
  · intro ds h
    match ds, h with
    | [d0, d1], _ => rfl
  · intro W base args ds ps hval0 hA0 hsz hL hsh
    have hval : ∀ (j : Nat) t v, Tryd.f6.params[j]? = some t → args[j]? = some v → Value.okWide Tryd.prog W .any base t v := hval0
    have hA : DataW.TrodAll enc Tryd.prog W 0 (fun _ => true) true Tryd.f6.params.toList args.toList ds ps := hA0
    have hLd := laidN_of (by simp [Rows.confSameRow]) (by simp [Rows.confSameRow]) (by simp [Rows.confSameRow]) hL
    rw [Tryd.params6] at hA hval
    obtain ⟨v0, v1, d0, d1, p0, p1, rfl, rfl, rfl, h0, h1⟩ := trodAll_two hA
    obtain ⟨a, pa, ca, rfl, ia, la, ma, ka⟩ := open_cfg (hval 0 _ _ rfl rfl) h0
    obtain ⟨b, pb, cb, rfl, ib, lb, mb, kb⟩ := open_cfg (hval 1 _ _ rfl rfl) h1
    exact walk a b pa pb ca cb W ia ib la lb hLd

theorem said : Rows.ConfSameSaid :=
  OpenClaim.holds_of_cond 6 Tryd.f6 rfl rfl rfl rfl rfl rfl rfl ⟨rfl, rfl, rfl, rfl, rfl⟩ rfl rfl rfl rfl rfl (by kernel_rfl) Tryd.func6 (by kernel_rfl)
    (of_decide_eq_true (by kernel_rfl)) (by unfold Func.isWrapper; first | (rw [if_pos (by decide +kernel)]; kernel_rfl) | (rw [if_neg (by decide +kernel)]; exact ⟨rfl, rfl⟩))
    (fun os started H enc _ F => by rw [OpenClaim.pre_eq_preRow]; exact lifted os started H enc F)

theorem plain (f : FuncId) (fn : Func) (hf : Tryd.pinned.checked.prog.funcNamed "chronobate/chronobatelaw06.ConfSame" = some f) (hfn : Tryd.pinned.checked.prog.funcs[f]? = some fn) :
    true = Tryd.pinned.checked.prog.looks [] ∧ ∀ (j : Nat) t, fn.params[j]? = some t → Tryd.pinned.checked.prog.wantsStandIn t = false := by
  obtain rfl : f = 6 := Option.some.inj ((show Tryd.prog.funcNamed "chronobate/chronobatelaw06.ConfSame" = some 6 by kernel_rfl).symm.trans hf) |>.symm
  obtain rfl : fn = Tryd.f6 := (Option.some.inj (Tryd.func6.symm.trans hfn)).symm
  refine ⟨by kernel_rfl, fun j t ht => ?_⟩
  have hall : (Tryd.f6.params.toList.all fun t => !(Tryd.prog.wantsStandIn t)) = true := by kernel_rfl
  have := List.all_eq_true.1 hall t (Array.mem_toList_iff.2 (Array.mem_of_getElem? ht))
  have h2 : Tryd.prog.wantsStandIn t = false := by simpa using this
  exact h2

theorem proved : Rows.ConfSameCardSaid :=
  Claim7.holds_tied_plain_at .later [] _ _ _ _ said (fun _ h => by cases h) (by kernel_rfl) (fun _ h => by cases h) confSame_row_tie rfl ⟨rfl, rfl⟩ (by kernel_rfl) rfl plain (by kernel_rfl)
#print axioms proved
end Go.Proofs.YtdcmjjinmnbaoaaDoor.confSame
