/- Of any text the lines are the document's, and their words, or which one is wrong. No condition. -/
import Derived.Test.YthbaoocnnfnhnaaDoorLxK
namespace Go.Proofs.YthbaoocnnfnhnaaDoor.lexLines
open Go.ChangeShapes Go.WideShapes Go.ChangeAt Go.RowKit Go.Proofs.YthbaoocnnfnhnaaDoor
set_option linter.unusedVariables false

set_option maxRecDepth 100000 in
set_option maxHeartbeats 8000000 in
theorem walk (l : List UInt8) (hl : l.length ≤ 9223372036854775807) (w : World) (hL : LaidS w) :
    Calls Tryd.prog 3 #[.string (bs l)] w fun e w' => e = .returned (.bool true) ∧ Mod NoB w w' := by
  replace hL := hide hL
  go_enter Tryd.func3, Tryd.ntmps3
  by_cases h7 : 70000 < l.length
  · go_wp2_with fail
    refine (alive_any _ hL.out).mono ?_
    rintro e w1 ⟨rfl, hm⟩
    replace hm := hide hm
    go_wp2
    go_ret
    exact ⟨rfl, hm.out⟩
  · by_cases h6 : 65536 < l.length
    · go_wp2_with fail
      refine (lines_long l h6 hl _).mono ?_
      rintro e w1 ⟨rfl, hm⟩
      replace hm := hide hm
      go_wp2_with fail
      refine (rlines_long l h6 hl _).mono ?_
      rintro e w2 ⟨rfl, hm2⟩
      replace hm := hide (hm.out.trans hm2)
      clear hm2
      go_wp2_with fail
      refine (alive_any _ (hL.out.mod hm.out)).mono ?_
      rintro e w3 ⟨rfl, hm2⟩
      replace hm := hide (hm.out.trans hm2)
      clear hm2
      go_wp2_with fail
      refine (same_eq _ _ [] 0 0 _ (by decide) (by simp) ⟨[], rfl, World.ownsRow_nil _ _ _ _, by simp⟩ ⟨[], rfl, World.ownsRow_nil _ _ _ _, by simp⟩).mono ?_
      rintro e w4 ⟨rfl, hm2⟩
      replace hm := hide (hm.out.trans hm2)
      clear hm2
      go_wp2
      go_ret
      exact ⟨rfl, hm.out⟩
    · have hcn : l.count 10 ≤ l.length := List.count_le_length
      have hlt := hide (linesTo_len l (partsN 10 l))
      have hlw := hide (linesTo_words l (partsN 10 l))
      have hpn : partsN 10 l ≤ 65537 := by simp only [partsN]; omega
      replace hpn := hide hpn
      go_wp2_with fail
      refine (lines_walk l (by omega) _ (fun W hm => hL.out.mod hm)).mono ?_
      rintro e w1 ⟨(⟨j, h1, h2, h3, rfl⟩ | ⟨h1, v, rfl, hv⟩), hm⟩
      · replace h3 := hide h3
        replace hm := hide hm
        replace h2 := hide h2
        have hj : (j : Int) < 65537 := by have := hpn.out; omega
        go_wp2_with fail
        refine (rlines_any l _ (by omega)).mono ?_
        rintro e w2 ⟨(⟨j', h1', h2', h3', rfl⟩ | ⟨h1', _⟩), hm2⟩
        · have hjj : j' = j := by
            rcases Nat.lt_trichotomy j' j with h | h | h
            · have := h3.out j' h; rw [h2'] at this; cases this
            · exact h
            · have := h3' j h; rw [h2.out] at this; cases this
          subst hjj
          clear h3' h2' h1'
          replace hm := hide (hm.out.trans hm2)
          clear hm2
          go_wp2_with fail
          refine (alive_any _ (hL.out.mod hm.out)).mono ?_
          rintro e w3 ⟨rfl, hm2⟩
          replace hm := hide (hm.out.trans hm2)
          clear hm2
          go_wp2_with fail
          refine (same_eq _ _ [] 0 0 _ (by decide) (by simp) ⟨[], rfl, World.ownsRow_nil _ _ _ _, by simp⟩ ⟨[], rfl, World.ownsRow_nil _ _ _ _, by simp⟩).mono ?_
          rintro e w4 ⟨rfl, hm2⟩
          replace hm := hide (hm.out.trans hm2)
          clear hm2
          go_wp2
          go_ret
          exact ⟨rfl, hm.out⟩
        · have := h1' j h1
          rw [h2.out] at this
          cases this
      · replace h1 := hide h1
        replace hm := hide hm
        replace hv := hide hv
        go_wp2_with fail
        refine (rlines_any l _ (by omega)).mono ?_
        rintro e w2 ⟨(⟨j', h1', h2', h3', rfl⟩ | ⟨h1', u, rfl, hu⟩), hm2⟩
        · have := h1.out j' h1'
          rw [h2'] at this
          cases this
        · clear h1'
          replace hu := hide hu
          replace hv := hide (hv.out.mod hm2 (fun _ h => h.elim))
          replace hm := hide (hm.out.trans hm2)
          clear hm2
          go_wp2_with fail
          refine (alive_any _ (hL.out.mod hm.out)).mono ?_
          rintro e w3 ⟨rfl, hm2⟩
          replace hu := hide (hu.out.mod hm2 (fun _ h => h.elim))
          replace hv := hide (hv.out.mod hm2 (fun _ h => h.elim))
          replace hm := hide (hm.out.trans hm2)
          clear hm2
          go_wp2_with fail
          refine (same_eq _ _ _ _ _ _ (by have := hlt.out; have := hpn.out; omega) (fun x hx => by have := hlw.out x hx; omega) hv.out hu.out).mono ?_
          rintro e w4 ⟨rfl, hm2⟩
          replace hm := hide (hm.out.trans hm2)
          clear hm2
          go_wp2
          go_ret
          exact ⟨rfl, hm.out⟩

theorem own : ownKnob Tryd.prog.godebug = none := by kernel_rfl

theorem laid_met (os : Os) : laidMet Tryd.prog Rows.lexLinesRow.laid ((World.laidAll Tryd.prog os Rows.lexLinesRow.laid).forCall (fun _ _ => 0) ⟨#[], #[.string ⟨#[]⟩], []⟩).memory :=
  laidMet_laidAll _ (by kernel_rfl) (by kernel_rfl)
theorem reads (os : Os) {H : Type} (enc : TypeId × Value → H) : ∃ places, DataW.whole enc Tryd.prog ((World.laidAll Tryd.prog os Rows.lexLinesRow.laid).forCall (fun _ _ => 0) ⟨#[], #[.string ⟨#[]⟩], []⟩).memory Tryd.f3.params.toList Rows.lexLinesSpec.vars false #[.string ⟨#[]⟩].toList 8 = some ([.lit (.string [])], [], places) :=
  ⟨[], by kernel_rfl⟩

set_option maxRecDepth 100000 in
theorem lifted (os : Os) (started : os.Started) (H : Type) (enc : TypeId × Value → H) (F : Stop.Interp) :
    ReturnsInHanded {} Tryd.checked os 3 .any ((OpenSpec.ofChange Rows.lexLinesSpec).preRow enc Tryd.prog Tryd.f3 Rows.lexLinesRow.domain false Rows.lexLinesRow.laid) (((OpenSpec.ofChange Rows.lexLinesSpec).at F).post enc Tryd.prog Tryd.f3 false true false false) := by
  obtain ⟨places, hx⟩ := reads os enc
  refine law_row (C := Tryd.checked) (bt := 4) own started (by kernel_rfl) Tryd.func3 (by kernel_rfl) (by kernel_rfl) (by kernel_rfl) Tryd.underlying4 rfl ?_ rfl
    (witness_row_atRef (enc := enc) (C := Tryd.checked) false (World.laidAll Tryd.prog os Rows.lexLinesRow.laid) #[.string ⟨#[]⟩] (World.laidAll_os _ _ _) (by kernel_rfl) (by kernel_rfl) (by kernel_rfl)
      (OpenSpec.preRow_of_cond 8 hx (by kernel_rfl) (fun k hk => by cases hk) (by kernel_rfl) (laid_met os))) ?_
  · intro ds h
    match ds, h with
    | [d0], _ => rfl
  · intro W base args ds ps hval0 hA0 hsz hL hsh
    have hval : ∀ (j : Nat) t v, Tryd.f3.params[j]? = some t → args[j]? = some v → Value.okWide Tryd.prog W .any base t v := hval0
    have hA : DataW.TrodAll enc Tryd.prog W 0 (fun _ => true) true Tryd.f3.params.toList args.toList ds ps := hA0
    have hLd := laidS_of (by simp [Rows.lexLinesRow]) hL
    rw [Tryd.params3] at hA hval
    obtain ⟨v0, d0, rfl, rfl, h0⟩ := trodAll_one hA
    obtain ⟨l, rfl, wl⟩ := open_bs Tryd.underlying9 (hval 0 _ _ rfl rfl) h0
    exact walk l wl W hLd

theorem said : Rows.LexLinesSaid :=
  OpenClaim.holds_of_cond 3 Tryd.f3 rfl rfl rfl rfl rfl rfl rfl ⟨rfl, rfl, rfl, rfl, rfl⟩ rfl rfl rfl rfl rfl (by kernel_rfl) Tryd.func3 (by kernel_rfl)
    (of_decide_eq_true (by kernel_rfl)) (by unfold Func.isWrapper; first | (rw [if_pos (by decide +kernel)]; kernel_rfl) | (rw [if_neg (by decide +kernel)]; exact ⟨rfl, rfl⟩))
    (fun os started H enc _ F => by rw [OpenClaim.pre_eq_preRow]; exact lifted os started H enc F)

theorem plain (f : FuncId) (fn : Func) (hf : Tryd.pinned.checked.prog.funcNamed "chronobate/chronobatelaw05.LexLines" = some f) (hfn : Tryd.pinned.checked.prog.funcs[f]? = some fn) :
    true = Tryd.pinned.checked.prog.looks [] ∧ ∀ (j : Nat) t, fn.params[j]? = some t → Tryd.pinned.checked.prog.wantsStandIn t = false := by
  obtain rfl : f = 3 := Option.some.inj ((show Tryd.prog.funcNamed "chronobate/chronobatelaw05.LexLines" = some 3 by kernel_rfl).symm.trans hf) |>.symm
  obtain rfl : fn = Tryd.f3 := (Option.some.inj (Tryd.func3.symm.trans hfn)).symm
  refine ⟨by kernel_rfl, fun j t ht => ?_⟩
  have hall : (Tryd.f3.params.toList.all fun t => !(Tryd.prog.wantsStandIn t)) = true := by kernel_rfl
  have := List.all_eq_true.1 hall t (Array.mem_toList_iff.2 (Array.mem_of_getElem? ht))
  have h2 : Tryd.prog.wantsStandIn t = false := by simpa using this
  exact h2

theorem proved : Rows.LexLinesCardSaid :=
  Claim7.holds_tied_plain_at .later [] _ _ _ _ said (fun _ h => by cases h) (by kernel_rfl) (fun _ h => by cases h) lexLines_row_tie rfl ⟨rfl, rfl⟩ (by kernel_rfl) rfl plain (by kernel_rfl)
#print axioms proved
end Go.Proofs.YthbaoocnnfnhnaaDoor.lexLines
