/- Of any word the number is the document's, or why there is none, and of any number the text. No condition. -/
import Derived.Test.YthbaoocnnfnhnaaDoorLxS
namespace Go.Proofs.YthbaoocnnfnhnaaDoor.lexNumbers
open Go.ChangeShapes Go.WideShapes Go.ChangeAt Go.RowKit Go.Proofs.YthbaoocnnfnhnaaDoor
set_option linter.unusedVariables false

set_option maxRecDepth 100000 in
set_option maxHeartbeats 8000000 in
theorem walk (l : List UInt8) (n : Int) (hl : l.length ≤ 9223372036854775807) (hn0 : -9223372036854775808 ≤ n) (hn1 : n ≤ 9223372036854775807) (w : World) (hL : LaidN w) :
    Calls Tryd.prog 7 #[.string (bs l), .int .i64 n] w fun e w' => e = .returned (.bool true) ∧ Mod NoB w w' := by
  replace hL := hide hL
  have hm : Hid (Mod NoB w w) := hide (Mod.refl _ _)
  go_enter Tryd.func7, Tryd.ntmps7
  by_cases h1 : 1000 < l.length
  · skip
    go_wp2_with fail
    refine (alive_any _ (hL.out.mod hm.out).s).mono ?_
    rintro e w3 ⟨rfl, hm2⟩
    replace hm := hide (hm.out.trans hm2)
    clear hm2
    go_wp2
    go_ret
    exact ⟨rfl, hm.out⟩
  · have hx := fun w' (h : LaidN w') => number_any l w' (by omega) h
    have hy := fun w' => rnumber_any l w' (by omega)
    generalize (numR l).1 = r1 at hx hy
    generalize (numR l).2 = r2 at hx hy
    replace hx := hide hx
    replace hy := hide hy
    go_wp2_with fail
    refine (hx.out _ (hL.out.mod hm.out)).mono ?_
    rintro e w3 ⟨rfl, hm2⟩
    replace hm := hide (hm.out.trans hm2)
    clear hm2
    go_wp2_with fail
    refine (hy.out _).mono ?_
    rintro e w3 ⟨rfl, hm2⟩
    replace hm := hide (hm.out.trans hm2)
    clear hm2
    go_wp2_with fail
    refine (alive_any _ (hL.out.mod hm.out).s).mono ?_
    rintro e w3 ⟨rfl, hm2⟩
    replace hm := hide (hm.out.trans hm2)
    clear hm2
    have ht := fun w' (h : LaidN w') => text_any n hn0 hn1 w' h
    have hr := fun w' => rtext_any n hn0 hn1 w'
    generalize bs (textOf n) = t at ht hr
    replace ht := hide ht
    replace hr := hide hr
    go_wp2_with fail
    refine (ht.out _ (hL.out.mod hm.out)).mono ?_
    rintro e w3 ⟨rfl, hm2⟩
    replace hm := hide (hm.out.trans hm2)
    clear hm2
    go_wp2_with fail
    refine (hr.out _).mono ?_
    rintro e w3 ⟨rfl, hm2⟩
    replace hm := hide (hm.out.trans hm2)
    clear hm2
    go_wp2
    go_ret
    exact ⟨bool_ret (by simp), hm.out⟩

theorem own : ownKnob Tryd.prog.godebug = none := by kernel_rfl

theorem laid_met (os : Os) : laidMet Tryd.prog Rows.lexNumbersRow.laid ((World.laidAll Tryd.prog os Rows.lexNumbersRow.laid).forCall (fun _ _ => 0) ⟨#[], #[.string ⟨#[]⟩, .int .i64 0], []⟩).memory :=
  laidMet_laidAll _ (by kernel_rfl) (by kernel_rfl)
theorem reads (os : Os) {H : Type} (enc : TypeId × Value → H) : ∃ places, DataW.whole enc Tryd.prog ((World.laidAll Tryd.prog os Rows.lexNumbersRow.laid).forCall (fun _ _ => 0) ⟨#[], #[.string ⟨#[]⟩, .int .i64 0], []⟩).memory Tryd.f7.params.toList Rows.lexNumbersSpec.vars false #[.string ⟨#[]⟩, .int .i64 0].toList 8 = some ([.lit (.string []), .lit (.int .i64 0)], [], places) :=
  ⟨[], by kernel_rfl⟩

set_option maxRecDepth 100000 in
theorem lifted (os : Os) (started : os.Started) (H : Type) (enc : TypeId × Value → H) (F : Stop.Interp) :
    ReturnsInHanded {} Tryd.checked os 7 .any ((OpenSpec.ofChange Rows.lexNumbersSpec).preRow enc Tryd.prog Tryd.f7 Rows.lexNumbersRow.domain false Rows.lexNumbersRow.laid) (((OpenSpec.ofChange Rows.lexNumbersSpec).at F).post enc Tryd.prog Tryd.f7 false true false false) := by
  obtain ⟨places, hx⟩ := reads os enc
  refine law_row (C := Tryd.checked) (bt := 4) own started (by kernel_rfl) Tryd.func7 (by kernel_rfl) (by kernel_rfl) (by kernel_rfl) Tryd.underlying4 rfl ?_ rfl
    (witness_row_atRef (enc := enc) (C := Tryd.checked) false (World.laidAll Tryd.prog os Rows.lexNumbersRow.laid) #[.string ⟨#[]⟩, .int .i64 0] (World.laidAll_os _ _ _) (by kernel_rfl) (by kernel_rfl) (by kernel_rfl)
      (OpenSpec.preRow_of_cond 8 hx (by kernel_rfl) (fun k hk => by cases hk) (by kernel_rfl) (laid_met os))) ?_
  · intro ds h
    match ds, h with
    | [d0, d1], _ => rfl
  · intro W base args ds ps hval0 hA0 hsz hL hsh
    have hval : ∀ (j : Nat) t v, Tryd.f7.params[j]? = some t → args[j]? = some v → Value.okWide Tryd.prog W .any base t v := hval0
    have hA : DataW.TrodAll enc Tryd.prog W 0 (fun _ => true) true Tryd.f7.params.toList args.toList ds ps := hA0
    have hLd := laidN_of (by simp [Rows.lexNumbersRow]) (by simp [Rows.lexNumbersRow]) (by simp [Rows.lexNumbersRow]) hL
    rw [Tryd.params7] at hA hval
    obtain ⟨v0, v1, d0, d1, p0, p1, rfl, rfl, rfl, h0, h1⟩ := trodAll_two hA
    obtain ⟨l, rfl, wl⟩ := open_bs Tryd.underlying9 (hval 0 _ _ rfl rfl) h0
    obtain ⟨n, rfl, rfl, rfl, wn⟩ := open_int Tryd.underlying3 (hval 1 _ _ rfl rfl) h1
    exact walk l n wl (i64_of_wf wn).1 (i64_of_wf wn).2 W hLd

theorem said : Rows.LexNumbersSaid :=
  OpenClaim.holds_of_cond 7 Tryd.f7 rfl rfl rfl rfl rfl rfl rfl ⟨rfl, rfl, rfl, rfl, rfl⟩ rfl rfl rfl rfl rfl (by kernel_rfl) Tryd.func7 (by kernel_rfl)
    (of_decide_eq_true (by kernel_rfl)) (by unfold Func.isWrapper; first | (rw [if_pos (by decide +kernel)]; kernel_rfl) | (rw [if_neg (by decide +kernel)]; exact ⟨rfl, rfl⟩))
    (fun os started H enc _ F => by rw [OpenClaim.pre_eq_preRow]; exact lifted os started H enc F)

theorem plain (f : FuncId) (fn : Func) (hf : Tryd.pinned.checked.prog.funcNamed "chronobate/chronobatelaw05.LexNumbers" = some f) (hfn : Tryd.pinned.checked.prog.funcs[f]? = some fn) :
    true = Tryd.pinned.checked.prog.looks [] ∧ ∀ (j : Nat) t, fn.params[j]? = some t → Tryd.pinned.checked.prog.wantsStandIn t = false := by
  obtain rfl : f = 7 := Option.some.inj ((show Tryd.prog.funcNamed "chronobate/chronobatelaw05.LexNumbers" = some 7 by kernel_rfl).symm.trans hf) |>.symm
  obtain rfl : fn = Tryd.f7 := (Option.some.inj (Tryd.func7.symm.trans hfn)).symm
  refine ⟨by kernel_rfl, fun j t ht => ?_⟩
  have hall : (Tryd.f7.params.toList.all fun t => !(Tryd.prog.wantsStandIn t)) = true := by kernel_rfl
  have := List.all_eq_true.1 hall t (Array.mem_toList_iff.2 (Array.mem_of_getElem? ht))
  have h2 : Tryd.prog.wantsStandIn t = false := by simpa using this
  exact h2

theorem proved : Rows.LexNumbersCardSaid :=
  Claim7.holds_tied_plain_at .later [] _ _ _ _ said (fun _ h => by cases h) (by kernel_rfl) (fun _ h => by cases h) lexNumbers_row_tie rfl ⟨rfl, rfl⟩ (by kernel_rfl) rfl plain (by kernel_rfl)
#print axioms proved
end Go.Proofs.YthbaoocnnfnhnaaDoor.lexNumbers
