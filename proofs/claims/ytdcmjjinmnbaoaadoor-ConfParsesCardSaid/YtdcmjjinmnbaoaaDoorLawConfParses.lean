/- Of any text the config is the document's, or in which line it is wrong, and why. No condition. -/
import Derived.Test.YtdcmjjinmnbaoaaDoorCgD
namespace Go.Proofs.YtdcmjjinmnbaoaaDoor.confParses
open Go.ChangeShapes Go.WideShapes Go.ChangeAt Go.RowKit Go.Proofs.YtdcmjjinmnbaoaaDoor
set_option linter.unusedVariables false

set_option maxRecDepth 100000 in
set_option maxHeartbeats 8000000 in
theorem walk (l : List UInt8) (hl : l.length ≤ 9223372036854775807) (w : World) (hL : LaidN w) :
    Calls Tryd.prog 3 #[.string (bs l)] w fun e w' => e = .returned (.bool true) ∧ Mod NoB w w' := by
  replace hL := hide hL
  have hm : Hid (Mod NoB w w) := hide (Mod.refl _ _)
  go_enter Tryd.func3, Tryd.ntmps3
  by_cases h5 : 5000 < l.length
  · skip
    go_wp2_with fail
    refine (calive_any _ (hL.out.mod hm.out)).mono ?_
    rintro e w3 ⟨rfl, hm2⟩
    replace hm := hide (hm.out.trans hm2)
    clear hm2
    go_wp2
    go_ret
    exact ⟨rfl, hm.out⟩
  · have hp := fun w' (h : LaidN w') => parse_any l hl w' h
    have hr := fun w' => rparse_any l (by omega) w'
    obtain ⟨a, n, er, hv⟩ : ∃ a n er, parseR l = (a, n, er) := ⟨_, _, _, rfl⟩
    rw [hv] at hp hr
    replace hp := hide hp
    replace hr := hide hr
    clear hv
    go_wp2_with fail
    refine (hp.out _ hL.out).mono ?_
    rintro e w1 ⟨ho, hm1⟩
    obtain ⟨p, c, rfl, hi, hc, hge, h16⟩ := ho.vals rfl rfl rfl
    replace hm := hide (hm.out.trans hm1)
    replace hi := hide hi
    replace hge := hide hge
    clear hm1
    go_wp2_with fail
    have hm1 : Hid (Mod NoB w1 (w1.alloc (.cells #[.slice p a.srv.length c, .int .i64 a.q, .int .i64 a.l, .int .i64 a.m, .int .i64 a.d, .int .i64 a.s] 25))) := hide ((Mod.refl _ _).alloc _)
    have hb1 : Hid ((w1.alloc (.cells #[.slice p a.srv.length c, .int .i64 a.q, .int .i64 a.l, .int .i64 a.m, .int .i64 a.d, .int .i64 a.s] 25)).heap[w1.heap.size]? = some (.cells #[.slice p a.srv.length c, .int .i64 a.q, .int .i64 a.l, .int .i64 a.m, .int .i64 a.d, .int .i64 a.s] 25 (0, 0))) := hide (heap_alloc_new _ _)
    refine (hr.out _).mono ?_
    rintro e w2 ⟨ho, hm2⟩
    obtain ⟨p2, c2_, rfl, hi2, hc2, hge2, -⟩ := ho.vals rfl rfl rfl
    replace hm := hide (hm.out.trans (hm1.out.trans hm2))
    replace hi := hide (hi.out.mod0 (hm1.out.trans hm2))
    replace hb1 := hide (hm2.heap hb1.out id)
    replace hi2 := hide hi2
    replace hge2 := hide hge2
    clear hm2 hm1
    go_wp2_with fail
    have hm1 : Hid (Mod NoB w2 (w2.alloc (.cells #[.slice p2 a.srv.length c2_, .int .i64 a.q, .int .i64 a.l, .int .i64 a.m, .int .i64 a.d, .int .i64 a.s] 25))) := hide ((Mod.refl _ _).alloc _)
    have hb2 : Hid ((w2.alloc (.cells #[.slice p2 a.srv.length c2_, .int .i64 a.q, .int .i64 a.l, .int .i64 a.m, .int .i64 a.d, .int .i64 a.s] 25)).heap[w2.heap.size]? = some (.cells #[.slice p2 a.srv.length c2_, .int .i64 a.q, .int .i64 a.l, .int .i64 a.m, .int .i64 a.d, .int .i64 a.s] 25 (0, 0))) := hide (heap_alloc_new _ _)
    refine (calive_any _ (hL.out.mod (hm.out.trans hm1.out))).mono ?_
    rintro e w3 ⟨rfl, hm2⟩
    replace hm := hide (hm.out.trans (hm1.out.trans hm2))
    replace hi := hide (hi.out.mod0 (hm1.out.trans hm2))
    replace hi2 := hide (hi2.out.mod0 (hm1.out.trans hm2))
    have hb1' := hm2.heap (hm1.out.heap hb1.out id) id
    have hb2' := hm2.heap hb2.out id
    obtain ⟨c0, c1, c2, c3, c4, c5, -⟩ := six_of hb1'
    obtain ⟨d0, d1, d2, d3, d4, d5, -⟩ := six_of hb2'
    replace hb1' := hide hb1'
    replace hb2' := hide hb2'
    have hs := rsame_any a a p p2 c c2_ w3 hi.out hi2.out (by omega)
    have hsc : sameC a a = true := same_yes (eqI_all rfl fun _ _ => rfl) rfl rfl rfl rfl rfl
    rw [hsc] at hs
    replace hs := hide hs
    clear hm2 hm1 hsc
    go_wp2_with fail
    refine hs.out.mono ?_
    rintro e w4 ⟨rfl, hm2⟩
    replace hm := hide (hm.out.trans hm2)
    clear hm2
    go_wp2
    go_ret
    exact ⟨rfl, hm.out⟩

theorem own : ownKnob Tryd.prog.godebug = none := by kernel_rfl

theorem laid_met (os : Os) : laidMet Tryd.prog Rows.confParsesRow.laid ((World.laidAll Tryd.prog os Rows.confParsesRow.laid).forCall (fun _ _ => 0) ⟨#[], #[.string ⟨#[]⟩], []⟩).memory :=
  laidMet_laidAll _ (by kernel_rfl) (by kernel_rfl)
theorem reads (os : Os) {H : Type} (enc : TypeId × Value → H) : ∃ places, DataW.whole enc Tryd.prog ((World.laidAll Tryd.prog os Rows.confParsesRow.laid).forCall (fun _ _ => 0) ⟨#[], #[.string ⟨#[]⟩], []⟩).memory Tryd.f3.params.toList Rows.confParsesSpec.vars false #[.string ⟨#[]⟩].toList 8 = some ([.lit (.string [])], [], places) :=
  ⟨[], by kernel_rfl⟩

set_option maxRecDepth 100000 in
theorem lifted (os : Os) (started : os.Started) (H : Type) (enc : TypeId × Value → H) (F : Stop.Interp) :
    ReturnsInHanded {} Tryd.checked os 3 .any ((OpenSpec.ofChange Rows.confParsesSpec).preRow enc Tryd.prog Tryd.f3 Rows.confParsesRow.domain false Rows.confParsesRow.laid) (((OpenSpec.ofChange Rows.confParsesSpec).at F).post enc Tryd.prog Tryd.f3 false true false false) := by
  obtain ⟨places, hx⟩ := reads os enc
  refine law_row (C := Tryd.checked) (bt := 4) own started (by kernel_rfl) Tryd.func3 (by kernel_rfl) (by kernel_rfl) (by kernel_rfl) Tryd.underlying4 rfl ?_ rfl
    (witness_row_atRef (enc := enc) (C := Tryd.checked) false (World.laidAll Tryd.prog os Rows.confParsesRow.laid) #[.string ⟨#[]⟩] (World.laidAll_os _ _ _) (by kernel_rfl) (by kernel_rfl) (by kernel_rfl)
      (OpenSpec.preRow_of_cond 8 hx (by kernel_rfl) (fun k hk => by cases hk) (by kernel_rfl) (laid_met os))) ?_
  · intro ds h
    match ds, h with
    | [d0], _ => rfl
  · intro W base args ds ps hval0 hA0 hsz hL hsh
    have hval : ∀ (j : Nat) t v, Tryd.f3.params[j]? = some t → args[j]? = some v → Value.okWide Tryd.prog W .any base t v := hval0
    have hA : DataW.TrodAll enc Tryd.prog W 0 (fun _ => true) true Tryd.f3.params.toList args.toList ds ps := hA0
    have hLd := laidN_of (by simp [Rows.confParsesRow]) (by simp [Rows.confParsesRow]) (by simp [Rows.confParsesRow]) hL
    rw [Tryd.params3] at hA hval
    obtain ⟨v0, d0, rfl, rfl, h0⟩ := trodAll_one hA
    obtain ⟨l, rfl, wl⟩ := open_bs Tryd.underlying9 (hval 0 _ _ rfl rfl) h0
    exact walk l wl W hLd

theorem said : Rows.ConfParsesSaid :=
  OpenClaim.holds_of_cond 3 Tryd.f3 rfl rfl rfl rfl rfl rfl rfl ⟨rfl, rfl, rfl, rfl, rfl⟩ rfl rfl rfl rfl rfl (by kernel_rfl) Tryd.func3 (by kernel_rfl)
    (of_decide_eq_true (by kernel_rfl)) (by unfold Func.isWrapper; first | (rw [if_pos (by decide +kernel)]; kernel_rfl) | (rw [if_neg (by decide +kernel)]; exact ⟨rfl, rfl⟩))
    (fun os started H enc _ F => by rw [OpenClaim.pre_eq_preRow]; exact lifted os started H enc F)

theorem plain (f : FuncId) (fn : Func) (hf : Tryd.pinned.checked.prog.funcNamed "chronobate/chronobatelaw06.ConfParses" = some f) (hfn : Tryd.pinned.checked.prog.funcs[f]? = some fn) :
    true = Tryd.pinned.checked.prog.looks [] ∧ ∀ (j : Nat) t, fn.params[j]? = some t → Tryd.pinned.checked.prog.wantsStandIn t = false := by
  obtain rfl : f = 3 := Option.some.inj ((show Tryd.prog.funcNamed "chronobate/chronobatelaw06.ConfParses" = some 3 by kernel_rfl).symm.trans hf) |>.symm
  obtain rfl : fn = Tryd.f3 := (Option.some.inj (Tryd.func3.symm.trans hfn)).symm
  refine ⟨by kernel_rfl, fun j t ht => ?_⟩
  have hall : (Tryd.f3.params.toList.all fun t => !(Tryd.prog.wantsStandIn t)) = true := by kernel_rfl
  have := List.all_eq_true.1 hall t (Array.mem_toList_iff.2 (Array.mem_of_getElem? ht))
  have h2 : Tryd.prog.wantsStandIn t = false := by simpa using this
  exact h2

theorem proved : Rows.ConfParsesCardSaid :=
  Claim7.holds_tied_plain_at .later [] _ _ _ _ said (fun _ h => by cases h) (by kernel_rfl) (fun _ h => by cases h) confParses_row_tie rfl ⟨rfl, rfl⟩ (by kernel_rfl) rfl plain (by kernel_rfl)
#print axioms proved
end Go.Proofs.YtdcmjjinmnbaoaaDoor.confParses
