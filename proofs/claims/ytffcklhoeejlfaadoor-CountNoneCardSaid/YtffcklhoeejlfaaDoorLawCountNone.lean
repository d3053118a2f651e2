/- Of no counts nothing is told, whatever is asked; they are the same as new ones. No condition. -/
import Derived.Test.YtffcklhoeejlfaaDoorCoW
namespace Go.Proofs.YtffcklhoeejlfaaDoor.countNone
open Go.ChangeShapes Go.WideShapes Go.ChangeAt Go.RowKit Go.Proofs.YtffcklhoeejlfaaDoor

theorem text_zero : Lib.join (ents zero13 13) [44, 32] = [] := by
  have : ents zero13 13 = [] := by
    simp only [ents, zero13_at]
    rfl
  rw [this]; rfl

theorem sum_zero : sumTo zero13 13 = 0 := rfl
theorem zero_in (k : Nat) : 0 ≤ zero13.getD k 0 ∧ zero13.getD k 0 ≤ 9007199254740992 := by rw [zero13_at]; omega

set_option maxHeartbeats 4000000 in
theorem walk (a : Int) (ha : I64 a) (w : World) (hL : Laid w) :
    Calls Tryd.prog 5 #[.int .i64 a] w fun e w' => e = .returned (.bool true) ∧ Mod NoB w w' := by
  have ht0 := hide text_zero
  have hs0 := hide sum_zero
  have hz0 := hide zero_in
  have ha0 := ha
  obtain ⟨ha1, ha2⟩ := ha0
  replace ha := hide ha
  replace hL := hide hL
  go_enter Tryd.func5, Tryd.ntmps5
  go_wp2_with fail
  refine (new_any _).mono ?_
  rintro e w1 ⟨b, rfl, hle, hb, hm⟩
  replace hb := hide hb
  replace hm := hide hm
  go_wp2_with fail
  refine (add_nil a _).mono ?_
  rintro e w' ⟨rfl, rfl⟩
  go_wp2_with fail
  refine (of_nil a ha.out _).mono ?_
  rintro e w2 ⟨rfl, hm2⟩
  replace hb := hide (hb.out.heap hm2 id)
  replace hm := hide (hm.out.trans hm2)
  clear hm2
  go_wp2_with fail
  refine (refused_of _ zero13 zero13_len hz0.out _ (all_nil _)).mono ?_
  rintro e w3 ⟨rfl, hm2⟩
  rw [hs0.out]
  replace hb := hide (hb.out.heap hm2 id)
  replace hm := hide (hm.out.trans hm2)
  clear hm2
  go_wp2_with fail
  refine (text_of _ zero13 zero13_len _ (all_nil _) hz0.out (hL.out.mod hm.out)).mono ?_
  rintro e w4 ⟨rfl, hm2⟩
  rw [ht0.out]
  replace hb := hide (hb.out.heap hm2 id)
  replace hm := hide (hm.out.trans hm2)
  clear hm2
  go_wp2_with fail
  refine (same_any _ _ zero13 zero13 _ zero13_len zero13_len (fun w' _ => all_nil w') (fun w' hm' => all_any b _ w' (hb.out.heap hm' id))).mono ?_
  rintro e w5 ⟨rfl, hm2⟩
  replace hb := hide (hb.out.heap hm2 id)
  replace hm := hide (hm.out.trans hm2)
  clear hm2
  go_wp2_with fail
  refine (same_any _ _ zero13 zero13 _ zero13_len zero13_len (fun w' hm' => all_any b _ w' (hb.out.heap hm' id)) (fun w' _ => all_nil w')).mono ?_
  rintro e w6 ⟨rfl, hm2⟩
  replace hb := hide (hb.out.heap hm2 id)
  replace hm := hide (hm.out.trans hm2)
  clear hm2
  go_wp2_with fail
  refine (same_any _ _ zero13 zero13 _ zero13_len zero13_len (fun w' _ => all_nil w') (fun w' _ => all_nil w')).mono ?_
  rintro e w7 ⟨rfl, hm2⟩
  replace hb := hide (hb.out.heap hm2 id)
  replace hm := hide (hm.out.trans hm2)
  clear hm2
  go_wp2_with fail
  refine (text_of _ zero13 zero13_len _ (all_any b _ _ hb.out) hz0.out (hL.out.mod hm.out)).mono ?_
  rintro e w8 ⟨rfl, hm2⟩
  rw [ht0.out]
  replace hb := hide (hb.out.heap hm2 id)
  replace hm := hide (hm.out.trans hm2)
  clear hm2
  by_cases hr : a < 0 ∨ 12 < a
  · replace hr := hide hr
    go_wp2_with fail
    refine (add_kind b a ha.out hr.out _).mono ?_
    rintro e w' ⟨rfl, rfl⟩
    go_wp2_with fail
    refine (alive_any _ (hL.out.mod hm.out)).mono ?_
    rintro e w9 ⟨rfl, hm2⟩
    replace hb := hide (hb.out.heap hm2 id)
    replace hm := hide (hm.out.trans hm2)
    clear hm2
    go_wp2_with fail
    refine (same_any _ _ zero13 zero13 _ zero13_len zero13_len (fun w' _ => all_nil w') (fun w' hm' => all_any b _ w' (hb.out.heap hm' id))).mono ?_
    rintro e w10 ⟨rfl, hm2⟩
    replace hm := hide (hm.out.trans hm2)
    clear hm2
    go_wp2
    go_ret
    exact ⟨bool_ret (by simp), hm.out⟩
  · obtain ⟨k, rfl⟩ := Int.eq_ofNat_of_zero_le (show 0 ≤ a by omega)
    have hk : k < 13 := by omega
    replace hr := hide hr
    go_wp2_with fail
    refine (add_any b k zero13 _ hb.out hk (by rw [zero13_at]; omega) (by rw [zero13_at]; omega)).mono ?_
    rintro e w9 ⟨rfl, hb2, hm2⟩
    have hne : decide (zero13 = zero13.set k (zero13.getD k 0 + 1)) = false := by
      have : zero13 ≠ zero13.set k (zero13.getD k 0 + 1) := by
        intro h
        have h2 := congrArg (fun l => l.getD k 0) h
        simp only [at_set _ zero13_len k k hk, zero13_at, if_true] at h2
        omega
      simpa using this
    have hl2 : (zero13.set k (zero13.getD k 0 + 1)).length = 13 := by simp [zero13]
    generalize zero13.set k (zero13.getD k 0 + 1) = c2 at hb2 hne hl2
    replace hb := hide hb2
    replace hm := hide (hm.out.into hm2 fun x hx => Or.inr (by omega))
    replace hl2 := hide hl2
    clear hm2 hb2
    go_wp2_with fail
    refine (alive_any _ (hL.out.mod hm.out)).mono ?_
    rintro e w10 ⟨rfl, hm2⟩
    replace hb := hide (hb.out.heap hm2 id)
    replace hm := hide (hm.out.trans hm2)
    clear hm2
    go_wp2_with fail
    refine (same_any _ _ zero13 c2 _ zero13_len hl2.out (fun w' _ => all_nil w') (fun w' hm' => all_any b _ w' (hb.out.heap hm' id))).mono ?_
    rintro e w11 ⟨rfl, hm2⟩
    replace hm := hide (hm.out.trans hm2)
    clear hm2
    go_wp2
    go_ret
    exact ⟨bool_ret (by simp), hm.out⟩

theorem own : ownKnob Tryd.prog.godebug = none := by kernel_rfl

theorem laid_met (os : Os) : laidMet Tryd.prog Rows.countNoneRow.laid ((laidWorld os).forCall (fun _ _ => 0) ⟨#[], #[.int .i64 0], []⟩).memory :=
  laidMet_of_run' 8 (by kernel_rfl) (by kernel_rfl)
theorem reads (os : Os) {H : Type} (enc : TypeId × Value → H) : ∃ places, DataW.whole enc Tryd.prog ((laidWorld os).forCall (fun _ _ => 0) ⟨#[], #[.int .i64 0], []⟩).memory Tryd.f5.params.toList Rows.countNoneSpec.vars false #[.int .i64 0].toList 8 = some ([.lit (.int .i64 0)], [], places) :=
  ⟨[], by kernel_rfl⟩

set_option maxRecDepth 100000 in
theorem lifted (os : Os) (started : os.Started) (H : Type) (enc : TypeId × Value → H) (F : Stop.Interp) :
    ReturnsInHanded {} Tryd.checked os 5 .any ((OpenSpec.ofChange Rows.countNoneSpec).preRow enc Tryd.prog Tryd.f5 Rows.countNoneRow.domain false Rows.countNoneRow.laid) (((OpenSpec.ofChange Rows.countNoneSpec).at F).post enc Tryd.prog Tryd.f5 false true false false) := by
  obtain ⟨places, hx⟩ := reads os enc
  refine law_row (C := Tryd.checked) (bt := 4) own started (by kernel_rfl) Tryd.func5 (by kernel_rfl) (by kernel_rfl) (by kernel_rfl) Tryd.underlying4 rfl ?_ rfl
    (witness_row_at (enc := enc) (C := Tryd.checked) false (laidWorld os) #[.int .i64 0] rfl (by kernel_rfl) (by kernel_rfl) (by kernel_rfl)
      (OpenSpec.preRow_of_cond 8 hx (by kernel_rfl) (fun k hk => by cases hk) (by kernel_rfl) (laid_met os))) ?_
  · intro ds h
    match ds, h with
    | [d0], _ => rfl
  · intro W base args ds ps hval0 hA0 hsz hL hsh
    have hval : ∀ (j : Nat) t v, Tryd.f5.params[j]? = some t → args[j]? = some v → Value.okWide Tryd.prog W .any base t v := hval0
    have hA : DataW.TrodAll enc Tryd.prog W 0 (fun _ => true) true Tryd.f5.params.toList args.toList ds ps := hA0
    have hLd : Laid W := laid_of hL
    rw [Tryd.params5] at hA hval
    obtain ⟨v0, d0, rfl, rfl, h0⟩ := trodAll_one hA
    obtain ⟨a, rfl, rfl, rfl, wa⟩ := open_int Tryd.underlying3 (hval 0 _ _ rfl rfl) h0
    exact walk a (i64_of_wf wa) W hLd

theorem said : Rows.CountNoneSaid :=
  OpenClaim.holds_of_cond 5 Tryd.f5 rfl rfl rfl rfl rfl rfl rfl ⟨rfl, rfl, rfl, rfl, rfl⟩ rfl rfl rfl rfl rfl (by kernel_rfl) Tryd.func5 (by kernel_rfl)
    (of_decide_eq_true (by kernel_rfl)) (by unfold Func.isWrapper; first | (rw [if_pos (by decide +kernel)]; kernel_rfl) | (rw [if_neg (by decide +kernel)]; exact ⟨rfl, rfl⟩))
    (fun os started H enc _ F => by rw [OpenClaim.pre_eq_preRow]; exact lifted os started H enc F)

theorem plain (f : FuncId) (fn : Func) (hf : Tryd.pinned.checked.prog.funcNamed "chronobate/chronobatelaw16.CountNone" = some f) (hfn : Tryd.pinned.checked.prog.funcs[f]? = some fn) :
    false = Tryd.pinned.checked.prog.looks [] ∧ ∀ (j : Nat) t, fn.params[j]? = some t → Tryd.pinned.checked.prog.wantsStandIn t = false := by
  obtain rfl : f = 5 := Option.some.inj ((show Tryd.prog.funcNamed "chronobate/chronobatelaw16.CountNone" = some 5 by kernel_rfl).symm.trans hf) |>.symm
  obtain rfl : fn = Tryd.f5 := (Option.some.inj (Tryd.func5.symm.trans hfn)).symm
  refine ⟨by kernel_rfl, fun j t ht => ?_⟩
  have hall : (Tryd.f5.params.toList.all fun t => !(Tryd.prog.wantsStandIn t)) = true := by kernel_rfl
  have := List.all_eq_true.1 hall t (Array.mem_toList_iff.2 (Array.mem_of_getElem? ht))
  have h2 : Tryd.prog.wantsStandIn t = false := by simpa using this
  exact h2

theorem proved : Rows.CountNoneCardSaid :=
  Claim7.holds_tied_plain_at .later [] _ _ _ _ said (fun _ h => by cases h) (by kernel_rfl) (fun _ h => by cases h) countNone_row_tie rfl ⟨rfl, rfl⟩ (by kernel_rfl) rfl plain (by kernel_rfl)
#print axioms proved
end Go.Proofs.YtffcklhoeejlfaaDoor.countNone
