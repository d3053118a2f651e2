/- A number's text is read as it; a word that is read as a number has that text. No condition. -/
import Derived.Test.YthbaoocnnfnhnaaDoorLxS
namespace Go.Proofs.YthbaoocnnfnhnaaDoor.lexBack
open Go.ChangeShapes Go.WideShapes Go.ChangeAt Go.RowKit Go.Proofs.YthbaoocnnfnhnaaDoor
set_option linter.unusedVariables false

set_option maxRecDepth 100000 in
set_option maxHeartbeats 8000000 in
theorem walk (n : Int) (l : List UInt8) (hn0 : -9223372036854775808 ≤ n) (hn1 : n ≤ 9223372036854775807) (hl : l.length ≤ 9223372036854775807) (w : World) (hL : LaidN w) :
    Calls Tryd.prog 9 #[.int .i64 n, .string (bs l)] w fun e w' => e = .returned (.bool true) ∧ Mod NoB w w' := by
  replace hL := hide hL
  have hm : Hid (Mod NoB w w) := hide (Mod.refl _ _)
  go_enter Tryd.func9, Tryd.ntmps9
  by_cases h1 : 1000 < l.length
  · skip
    go_wp2_with fail
    refine (alive_any _ (hL.out.mod hm.out).s).mono ?_
    rintro e w3 ⟨rfl, hm2⟩
    replace hm := hide (hm.out.trans hm2)
    clear hm2
    go_wp2
    go_ret
    exact ⟨rfl, hm.out⟩
  · have hx := fun w' (h : LaidN w') => number_any l w' (by omega) h
    have ht := fun w' (h : LaidN w') => text_any n hn0 hn1 w' h
    obtain ⟨m, er, hr⟩ : ∃ m er, numR l = (m, er) := ⟨_, _, rfl⟩
    rw [hr] at hx
    have hback : er = 0 → textOf m = l := fun h => text_of_num (by rw [hr, h])
    have hbd := numR_err hr
    have hx : ∀ w', LaidN w' → Calls Tryd.prog 18 #[.string (bs l)] w' fun e w'' => e = .returned (.tuple #[.int .i64 m, .int .i64 er]) ∧ Mod NoB w' w'' := hx
    replace hx := hide hx
    replace hback := hide hback
    clear hr
    · by_cases hn : n < 0 ∨ 1000000000 < n
      · rw [text_none hn] at ht
        replace ht := hide ht
        go_wp2_with fail
        refine (ht.out _ (hL.out.mod hm.out)).mono ?_
        rintro e w3 ⟨rfl, hm2⟩
        replace hm := hide (hm.out.trans hm2)
        clear hm2
        rcases hn with hn | hn
        · rcases hbd with ⟨rfl, hb1, hb2⟩ | ⟨hb0, rfl, hb2⟩
          · have htm := hide (text_any m (by omega) (by omega))
            rw [hback.out rfl] at htm
            replace htm := hide htm.out
            go_wp2_with fail
            refine (hx.out _ (hL.out.mod hm.out)).mono ?_
            rintro e w3 ⟨rfl, hm2⟩
            replace hm := hide (hm.out.trans hm2)
            clear hm2
            go_wp2_with fail
            refine (alive_any _ (hL.out.mod hm.out).s).mono ?_
            rintro e w3 ⟨rfl, hm2⟩
            replace hm := hide (hm.out.trans hm2)
            clear hm2
            go_wp2_with fail
            refine (htm.out _ (hL.out.mod hm.out)).mono ?_
            rintro e w3 ⟨rfl, hm2⟩
            replace hm := hide (hm.out.trans hm2)
            clear hm2
            go_wp2
            go_ret
            exact ⟨bool_ret (by simp), hm.out⟩
          · have he0 : (er == 0) = false := by simpa using hb0
            clear hb2
            go_wp2_with fail
            refine (hx.out _ (hL.out.mod hm.out)).mono ?_
            rintro e w3 ⟨rfl, hm2⟩
            replace hm := hide (hm.out.trans hm2)
            clear hm2
            go_wp2_with fail
            refine (alive_any _ (hL.out.mod hm.out).s).mono ?_
            rintro e w3 ⟨rfl, hm2⟩
            replace hm := hide (hm.out.trans hm2)
            clear hm2
            go_wp2
            go_ret
            exact ⟨rfl, hm.out⟩
        · have hn' : ¬ n < 0 := by omega
          rcases hbd with ⟨rfl, hb1, hb2⟩ | ⟨hb0, rfl, hb2⟩
          · have htm := hide (text_any m (by omega) (by omega))
            rw [hback.out rfl] at htm
            replace htm := hide htm.out
            go_wp2_with fail
            refine (hx.out _ (hL.out.mod hm.out)).mono ?_
            rintro e w3 ⟨rfl, hm2⟩
            replace hm := hide (hm.out.trans hm2)
            clear hm2
            go_wp2_with fail
            refine (alive_any _ (hL.out.mod hm.out).s).mono ?_
            rintro e w3 ⟨rfl, hm2⟩
            replace hm := hide (hm.out.trans hm2)
            clear hm2
            go_wp2_with fail
            refine (htm.out _ (hL.out.mod hm.out)).mono ?_
            rintro e w3 ⟨rfl, hm2⟩
            replace hm := hide (hm.out.trans hm2)
            clear hm2
            go_wp2
            go_ret
            exact ⟨bool_ret (by simp), hm.out⟩
          · have he0 : (er == 0) = false := by simpa using hb0
            clear hb2
            go_wp2_with fail
            refine (hx.out _ (hL.out.mod hm.out)).mono ?_
            rintro e w3 ⟨rfl, hm2⟩
            replace hm := hide (hm.out.trans hm2)
            clear hm2
            go_wp2_with fail
            refine (alive_any _ (hL.out.mod hm.out).s).mono ?_
            rintro e w3 ⟨rfl, hm2⟩
            replace hm := hide (hm.out.trans hm2)
            clear hm2
            go_wp2
            go_ret
            exact ⟨rfl, hm.out⟩
      · have hrt := numR_text (n := n) (by omega) (by omega)
        have hne := text_ne (n := n) (by omega) (by omega)
        have htl : (textOf n).length ≤ 1000000 := by have := text_len n; omega
        have hy := fun w' (h : LaidN w') => number_any (textOf n) w' htl h
        rw [hrt] at hy
        generalize textOf n = t at *
        have hte : t.isEmpty = false := by simpa using hne
        have hy : ∀ w', LaidN w' → Calls Tryd.prog 18 #[.string (bs t)] w' fun e w'' => e = .returned (.tuple #[.int .i64 n, .int .i64 0]) ∧ Mod NoB w' w'' := hy
        replace hy := hide hy
        replace ht := hide ht
        clear hrt hne htl hn
        go_wp2_with fail
        refine (ht.out _ (hL.out.mod hm.out)).mono ?_
        rintro e w3 ⟨rfl, hm2⟩
        replace hm := hide (hm.out.trans hm2)
        clear hm2
        go_wp2_with fail
        refine (hy.out _ (hL.out.mod hm.out)).mono ?_
        rintro e w3 ⟨rfl, hm2⟩
        replace hm := hide (hm.out.trans hm2)
        clear hm2
        rcases hbd with ⟨rfl, hb1, hb2⟩ | ⟨hb0, rfl, hb2⟩
        · have htm := hide (text_any m (by omega) (by omega))
          rw [hback.out rfl] at htm
          replace htm := hide htm.out
          go_wp2_with fail
          refine (hx.out _ (hL.out.mod hm.out)).mono ?_
          rintro e w3 ⟨rfl, hm2⟩
          replace hm := hide (hm.out.trans hm2)
          clear hm2
          go_wp2_with fail
          refine (alive_any _ (hL.out.mod hm.out).s).mono ?_
          rintro e w3 ⟨rfl, hm2⟩
          replace hm := hide (hm.out.trans hm2)
          clear hm2
          go_wp2_with fail
          refine (htm.out _ (hL.out.mod hm.out)).mono ?_
          rintro e w3 ⟨rfl, hm2⟩
          replace hm := hide (hm.out.trans hm2)
          clear hm2
          go_wp2
          go_ret
          exact ⟨bool_ret (by simp), hm.out⟩
        · have he0 : (er == 0) = false := by simpa using hb0
          clear hb2
          go_wp2_with fail
          refine (hx.out _ (hL.out.mod hm.out)).mono ?_
          rintro e w3 ⟨rfl, hm2⟩
          replace hm := hide (hm.out.trans hm2)
          clear hm2
          go_wp2_with fail
          refine (alive_any _ (hL.out.mod hm.out).s).mono ?_
          rintro e w3 ⟨rfl, hm2⟩
          replace hm := hide (hm.out.trans hm2)
          clear hm2
          go_wp2
          go_ret
          exact ⟨rfl, hm.out⟩

theorem own : ownKnob Tryd.prog.godebug = none := by kernel_rfl

theorem laid_met (os : Os) : laidMet Tryd.prog Rows.lexBackRow.laid ((World.laidAll Tryd.prog os Rows.lexBackRow.laid).forCall (fun _ _ => 0) ⟨#[], #[.int .i64 0, .string ⟨#[]⟩], []⟩).memory :=
  laidMet_laidAll _ (by kernel_rfl) (by kernel_rfl)
theorem reads (os : Os) {H : Type} (enc : TypeId × Value → H) : ∃ places, DataW.whole enc Tryd.prog ((World.laidAll Tryd.prog os Rows.lexBackRow.laid).forCall (fun _ _ => 0) ⟨#[], #[.int .i64 0, .string ⟨#[]⟩], []⟩).memory Tryd.f9.params.toList Rows.lexBackSpec.vars false #[.int .i64 0, .string ⟨#[]⟩].toList 8 = some ([.lit (.int .i64 0), .lit (.string [])], [], places) :=
  ⟨[], by kernel_rfl⟩

set_option maxRecDepth 100000 in
theorem lifted (os : Os) (started : os.Started) (H : Type) (enc : TypeId × Value → H) (F : Stop.Interp) :
    ReturnsInHanded {} Tryd.checked os 9 .any ((OpenSpec.ofChange Rows.lexBackSpec).preRow enc Tryd.prog Tryd.f9 Rows.lexBackRow.domain false Rows.lexBackRow.laid) (((OpenSpec.ofChange Rows.lexBackSpec).at F).post enc Tryd.prog Tryd.f9 false true false false) := by
  obtain ⟨places, hx⟩ := reads os enc
  refine law_row (C := Tryd.checked) (bt := 4) own started (by kernel_rfl) Tryd.func9 (by kernel_rfl) (by kernel_rfl) (by kernel_rfl) Tryd.underlying4 rfl ?_ rfl
    (witness_row_atRef (enc := enc) (C := Tryd.checked) false (World.laidAll Tryd.prog os Rows.lexBackRow.laid) #[.int .i64 0, .string ⟨#[]⟩] (World.laidAll_os _ _ _) (by kernel_rfl) (by kernel_rfl) (by kernel_rfl)
      (OpenSpec.preRow_of_cond 8 hx (by kernel_rfl) (fun k hk => by cases hk) (by kernel_rfl) (laid_met os))) ?_
  · intro ds h
    match ds, h with
    | [d0, d1], _ => rfl
  · intro W base args ds ps hval0 hA0 hsz hL hsh
    have hval : ∀ (j : Nat) t v, Tryd.f9.params[j]? = some t → args[j]? = some v → Value.okWide Tryd.prog W .any base t v := hval0
    have hA : DataW.TrodAll enc Tryd.prog W 0 (fun _ => true) true Tryd.f9.params.toList args.toList ds ps := hA0
    have hLd := laidN_of (by simp [Rows.lexBackRow]) (by simp [Rows.lexBackRow]) (by simp [Rows.lexBackRow]) hL
    rw [Tryd.params9] at hA hval
    obtain ⟨v0, v1, d0, d1, p0, p1, rfl, rfl, rfl, h0, h1⟩ := trodAll_two hA
    obtain ⟨n, rfl, rfl, rfl, wn⟩ := open_int Tryd.underlying3 (hval 0 _ _ rfl rfl) h0
    obtain ⟨l, rfl, wl⟩ := open_bs Tryd.underlying9 (hval 1 _ _ rfl rfl) h1
    exact walk n l (i64_of_wf wn).1 (i64_of_wf wn).2 wl W hLd

theorem said : Rows.LexBackSaid :=
  OpenClaim.holds_of_cond 9 Tryd.f9 rfl rfl rfl rfl rfl rfl rfl ⟨rfl, rfl, rfl, rfl, rfl⟩ rfl rfl rfl rfl rfl (by kernel_rfl) Tryd.func9 (by kernel_rfl)
    (of_decide_eq_true (by kernel_rfl)) (by unfold Func.isWrapper; first | (rw [if_pos (by decide +kernel)]; kernel_rfl) | (rw [if_neg (by decide +kernel)]; exact ⟨rfl, rfl⟩))
    (fun os started H enc _ F => by rw [OpenClaim.pre_eq_preRow]; exact lifted os started H enc F)

theorem plain (f : FuncId) (fn : Func) (hf : Tryd.pinned.checked.prog.funcNamed "chronobate/chronobatelaw05.LexBack" = some f) (hfn : Tryd.pinned.checked.prog.funcs[f]? = some fn) :
    true = Tryd.pinned.checked.prog.looks [] ∧ ∀ (j : Nat) t, fn.params[j]? = some t → Tryd.pinned.checked.prog.wantsStandIn t = false := by
  obtain rfl : f = 9 := Option.some.inj ((show Tryd.prog.funcNamed "chronobate/chronobatelaw05.LexBack" = some 9 by kernel_rfl).symm.trans hf) |>.symm
  obtain rfl : fn = Tryd.f9 := (Option.some.inj (Tryd.func9.symm.trans hfn)).symm
  refine ⟨by kernel_rfl, fun j t ht => ?_⟩
  have hall : (Tryd.f9.params.toList.all fun t => !(Tryd.prog.wantsStandIn t)) = true := by kernel_rfl
  have := List.all_eq_true.1 hall t (Array.mem_toList_iff.2 (Array.mem_of_getElem? ht))
  have h2 : Tryd.prog.wantsStandIn t = false := by simpa using this
  exact h2

theorem proved : Rows.LexBackCardSaid :=
  Claim7.holds_tied_plain_at .later [] _ _ _ _ said (fun _ h => by cases h) (by kernel_rfl) (fun _ h => by cases h) lexBack_row_tie rfl ⟨rfl, rfl⟩ (by kernel_rfl) rfl plain (by kernel_rfl)
#print axioms proved
end Go.Proofs.YthbaoocnnfnhnaaDoor.lexBack
