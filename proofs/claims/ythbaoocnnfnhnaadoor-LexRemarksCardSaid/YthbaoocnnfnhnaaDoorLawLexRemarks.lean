/- A remark behind any line that is plain changes nothing of its words, whatever stands in it. No condition. -/
import Derived.Test.YthbaoocnnfnhnaaDoorLxM
import Derived.Test.YthbaoocnnfnhnaaDoorKitQ
namespace Go.Proofs.YthbaoocnnfnhnaaDoor.lexRemarks
open Go.ChangeShapes Go.WideShapes Go.ChangeAt Go.RowKit Go.Proofs.YthbaoocnnfnhnaaDoor
set_option linter.unusedVariables false

set_option maxRecDepth 100000 in
set_option maxHeartbeats 8000000 in
theorem walk (l r : List UInt8) (hl : l.length ≤ 9223372036854775807) (hr : r.length ≤ 9223372036854775807) (w : World) (hL : LaidS w) :
    Calls Tryd.prog 4 #[.string (bs l), .string (bs r)] w fun e w' => e = .returned (.bool true) ∧ Mod NoB w w' := by
  replace hL := hide hL
  have hm : Hid (Mod NoB w w) := hide (Mod.refl _ _)
  have hcl := Tryd.strings_Contains_one (bs l) 10 w
  have hcr := Tryd.strings_Contains_one (bs r) 10 w
  go_enter Tryd.func4, Tryd.ntmps4
  by_cases h1 : 1000 < l.length
  · clear hcl hcr
    go_wp2_with fail
    refine (alive_any _ (hL.out.mod hm.out)).mono ?_
    rintro e w3 ⟨rfl, hm2⟩
    replace hm := hide (hm.out.trans hm2)
    clear hm2
    go_wp2
    go_ret
    exact ⟨rfl, hm.out⟩
  · have hd1 : decide ((1000 : Int) < (l.length : Int)) = false := by simp; omega
    by_cases h2 : 1000 < r.length
    · clear hcl hcr
      go_wp2_with fail
      refine (alive_any _ (hL.out.mod hm.out)).mono ?_
      rintro e w3 ⟨rfl, hm2⟩
      replace hm := hide (hm.out.trans hm2)
      clear hm2
      go_wp2
      go_ret
      exact ⟨rfl, hm.out⟩
    · have hd2 : decide ((1000 : Int) < (r.length : Int)) = false := by simp; omega
      by_cases h3 : (10 : UInt8) ∈ l
      · rw [index_some h3] at hcl
        replace hcl := hide hcl
        clear hcr h3
        go_wp2_with fail
        refine hcl.out.mono ?_
        rintro e w' ⟨rfl, rfl⟩
        go_wp2_with fail
        refine (alive_any _ (hL.out.mod hm.out)).mono ?_
        rintro e w3 ⟨rfl, hm2⟩
        replace hm := hide (hm.out.trans hm2)
        clear hm2
        go_wp2
        go_ret
        exact ⟨rfl, hm.out⟩
      · rw [index_none h3] at hcl
        by_cases h4 : (10 : UInt8) ∈ r
        · rw [index_some h4] at hcr
          replace hcl := hide hcl
          replace hcr := hide hcr
          clear h3 h4
          go_wp2_with fail
          refine hcl.out.mono ?_
          rintro e w' ⟨rfl, rfl⟩
          go_wp2_with fail
          refine hcr.out.mono ?_
          rintro e w' ⟨rfl, rfl⟩
          go_wp2_with fail
          refine (alive_any _ (hL.out.mod hm.out)).mono ?_
          rintro e w3 ⟨rfl, hm2⟩
          replace hm := hide (hm.out.trans hm2)
          clear hm2
          go_wp2
          go_ret
          exact ⟨rfl, hm.out⟩
        · rw [index_none h4] at hcr
          replace hcl := hide hcl
          replace hcr := hide hcr
          have hl1 := hide (lines_one l h3 (by omega))
          have hl2 := lines_one (l ++ 35 :: r) (remark_ten h3 h4) (by simp; omega)
          rw [remark_lines h3 h4, remark_ok h3 h4] at hl2
          have hcat : bs l ++ ⟨#[35]⟩ ++ bs r = bs (l ++ 35 :: r) := by
            apply ByteArray.ext
            simp
          rw [← hcat] at hl2
          replace hl2 := hide hl2
          have hlen := hide (linesTo_len l 1)
          have hww := hide (linesTo_words l 1)
          have hwl := hide (linesTo_word_len l 1)
          clear h3 h4 hcat
          go_wp2_with fail
          refine hcl.out.mono ?_
          rintro e w' ⟨rfl, rfl⟩
          go_wp2_with fail
          refine hcr.out.mono ?_
          rintro e w' ⟨rfl, rfl⟩
          go_wp2_with fail
          refine (hl1.out _ hL.out).mono ?_
          generalize okLine l 0 = ok at hl1 hl2
          rintro e w1 ⟨ho, hm2⟩
          replace hm := hide hm2
          clear hm2
          cases ok with
          | false =>
            simp only [Bool.false_eq_true, if_false] at ho
            subst ho
            go_wp2_with fail
            refine (hl2.out _ (hL.out.mod hm.out)).mono ?_
            rintro e w2 ⟨ho, hm2⟩
            simp only [Bool.false_eq_true, if_false] at ho
            subst ho
            replace hm := hide (hm.out.trans hm2)
            clear hm2
            go_wp2_with fail
            refine (alive_any _ (hL.out.mod hm.out)).mono ?_
            rintro e w3 ⟨rfl, hm2⟩
            replace hm := hide (hm.out.trans hm2)
            clear hm2
            go_wp2
            go_ret
            exact ⟨rfl, hm.out⟩
          | true =>
            simp only [if_true] at ho
            obtain ⟨v, rfl, hv⟩ := ho
            replace hv := hide hv
            go_wp2_with fail
            refine (hl2.out _ (hL.out.mod hm.out)).mono ?_
            rintro e w2 ⟨ho, hm2⟩
            simp only [if_true] at ho
            obtain ⟨v2, rfl, hv2⟩ := ho
            replace hv := hide (hv.out.mod hm2 (fun _ h => h.elim))
            replace hv2 := hide hv2
            replace hm := hide (hm.out.trans hm2)
            clear hm2 hl1 hl2 hcl hcr
            generalize linesTo l 1 = ls at hv hv2 hlen hww hwl
            have hls := hlen.out
            obtain ⟨p, cap, rfl, -⟩ := hv.out.open
            obtain ⟨p2, cap2, rfl, -⟩ := hv2.out.open
            cases ls with
            | nil =>
              simp only [List.length_nil] at hls ⊢
              clear hls
              go_wp2_with fail
              clear hv hv2 hlen hww hwl
              have hal := fun (x : Since w2) => Since.call x (fun w' h => alive_any w' (hL.out.mod (hm.out.trans h)))
              replace hal := hide hal
              refine wp_region_mod (by kernel_rfl) (by kernel_rfl) ?_
              repeat (go_big_quiet_step ((go_at_call 10; exact hal.out _)))
              refine wpQuiet_nil ?_
              rintro _ ⟨⟨w3, hm3⟩, rfl⟩
              go_wp2
              go_ret
              exact ⟨rfl, hm.out.trans hm3⟩
            | cons x ls =>
              obtain rfl : ls = [] := by cases ls <;> simp_all
              obtain ⟨p', cap', e1, hc⟩ := hv.out.open
              cases e1
              obtain ⟨g, u0, c0, rfl, a1, a2, a3⟩ := hc 0 _ rfl
              obtain ⟨p', cap', e1, hc2⟩ := hv2.out.open
              cases e1
              obtain ⟨g2, u2, c2, rfl, b1, b2, b3⟩ := hc2 0 _ rfl
              have hx1 := hww.out x (by simp)
              have hx2 := hwl.out x (by simp)
              simp only [Nat.zero_mul, List.length_cons, List.length_nil, Nat.reduceAdd] at hls a1 a2 b1 b2 ⊢
              clear hls a1 b1 hc hc2
              have hj1 := fun (y : Since w2) => Since.call y (fun w' h => joinw_any u0 c0 _ x.2 w' (ownsRow_mod a3 h (fun _ h => h.elim)) (by omega) (fun z hz => by have := hx2 z hz; omega))
              have hj2 := fun (y : Since w2) => Since.call y (fun w' h => joinw_any u2 c2 _ x.2 w' (ownsRow_mod b3 h (fun _ h => h.elim)) (by omega) (fun z hz => by have := hx2 z hz; omega))
              replace hj1 := hide hj1
              replace hj2 := hide hj2
              replace a2 := Since.cell a2
              replace b2 := Since.cell b2
              clear hx2 hv hv2 hlen hww hwl a3 b3
              have hal := fun (x : Since w2) => Since.call x (fun w' h => alive_any w' (hL.out.mod (hm.out.trans h)))
              replace hal := hide hal
              go_wp2_with fail
              refine wp_region_mod (by kernel_rfl) (by kernel_rfl) ?_
              repeat (go_big_quiet_step ((first | (go_at_call 10; exact hal.out _) | (go_at_call 15; first | with_reducible exact hj1.out _ | with_reducible exact hj2.out _))))
              refine wpQuiet_nil ?_
              rintro _ ⟨⟨w3, hm3⟩, rfl⟩
              go_wp2
              go_ret
              exact ⟨rfl, hm.out.trans hm3⟩

theorem own : ownKnob Tryd.prog.godebug = none := by kernel_rfl

theorem laid_met (os : Os) : laidMet Tryd.prog Rows.lexRemarksRow.laid ((World.laidAll Tryd.prog os Rows.lexRemarksRow.laid).forCall (fun _ _ => 0) ⟨#[], #[.string ⟨#[]⟩, .string ⟨#[]⟩], []⟩).memory :=
  laidMet_laidAll _ (by kernel_rfl) (by kernel_rfl)
theorem reads (os : Os) {H : Type} (enc : TypeId × Value → H) : ∃ places, DataW.whole enc Tryd.prog ((World.laidAll Tryd.prog os Rows.lexRemarksRow.laid).forCall (fun _ _ => 0) ⟨#[], #[.string ⟨#[]⟩, .string ⟨#[]⟩], []⟩).memory Tryd.f4.params.toList Rows.lexRemarksSpec.vars false #[.string ⟨#[]⟩, .string ⟨#[]⟩].toList 8 = some ([.lit (.string []), .lit (.string [])], [], places) :=
  ⟨[], by kernel_rfl⟩

set_option maxRecDepth 100000 in
theorem lifted (os : Os) (started : os.Started) (H : Type) (enc : TypeId × Value → H) (F : Stop.Interp) :
    ReturnsInHanded {} Tryd.checked os 4 .any ((OpenSpec.ofChange Rows.lexRemarksSpec).preRow enc Tryd.prog Tryd.f4 Rows.lexRemarksRow.domain false Rows.lexRemarksRow.laid) (((OpenSpec.ofChange Rows.lexRemarksSpec).at F).post enc Tryd.prog Tryd.f4 false true false false) := by
  obtain ⟨places, hx⟩ := reads os enc
  refine law_row (C := Tryd.checked) (bt := 4) own started (by kernel_rfl) Tryd.func4 (by kernel_rfl) (by kernel_rfl) (by kernel_rfl) Tryd.underlying4 rfl ?_ rfl
    (witness_row_atRef (enc := enc) (C := Tryd.checked) false (World.laidAll Tryd.prog os Rows.lexRemarksRow.laid) #[.string ⟨#[]⟩, .string ⟨#[]⟩] (World.laidAll_os _ _ _) (by kernel_rfl) (by kernel_rfl) (by kernel_rfl)
      (OpenSpec.preRow_of_cond 8 hx (by kernel_rfl) (fun k hk => by cases hk) (by kernel_rfl) (laid_met os))) ?_
  · intro ds h
    match ds, h with
    | [d0, d1], _ => rfl
  · intro W base args ds ps hval0 hA0 hsz hL hsh
    have hval : ∀ (j : Nat) t v, Tryd.f4.params[j]? = some t → args[j]? = some v → Value.okWide Tryd.prog W .any base t v := hval0
    have hA : DataW.TrodAll enc Tryd.prog W 0 (fun _ => true) true Tryd.f4.params.toList args.toList ds ps := hA0
    have hLd := laidS_of (by simp [Rows.lexRemarksRow]) hL
    rw [Tryd.params4] at hA hval
    obtain ⟨v0, v1, d0, d1, p0, p1, rfl, rfl, rfl, h0, h1⟩ := trodAll_two hA
    obtain ⟨l, rfl, wl⟩ := open_bs Tryd.underlying9 (hval 0 _ _ rfl rfl) h0
    obtain ⟨r, rfl, wr⟩ := open_bs Tryd.underlying9 (hval 1 _ _ rfl rfl) h1
    exact walk l r wl wr W hLd

theorem said : Rows.LexRemarksSaid :=
  OpenClaim.holds_of_cond 4 Tryd.f4 rfl rfl rfl rfl rfl rfl rfl ⟨rfl, rfl, rfl, rfl, rfl⟩ rfl rfl rfl rfl rfl (by kernel_rfl) Tryd.func4 (by kernel_rfl)
    (of_decide_eq_true (by kernel_rfl)) (by unfold Func.isWrapper; first | (rw [if_pos (by decide +kernel)]; kernel_rfl) | (rw [if_neg (by decide +kernel)]; exact ⟨rfl, rfl⟩))
    (fun os started H enc _ F => by rw [OpenClaim.pre_eq_preRow]; exact lifted os started H enc F)

theorem plain (f : FuncId) (fn : Func) (hf : Tryd.pinned.checked.prog.funcNamed "chronobate/chronobatelaw05.LexRemarks" = some f) (hfn : Tryd.pinned.checked.prog.funcs[f]? = some fn) :
    true = Tryd.pinned.checked.prog.looks [] ∧ ∀ (j : Nat) t, fn.params[j]? = some t → Tryd.pinned.checked.prog.wantsStandIn t = false := by
  obtain rfl : f = 4 := Option.some.inj ((show Tryd.prog.funcNamed "chronobate/chronobatelaw05.LexRemarks" = some 4 by kernel_rfl).symm.trans hf) |>.symm
  obtain rfl : fn = Tryd.f4 := (Option.some.inj (Tryd.func4.symm.trans hfn)).symm
  refine ⟨by kernel_rfl, fun j t ht => ?_⟩
  have hall : (Tryd.f4.params.toList.all fun t => !(Tryd.prog.wantsStandIn t)) = true := by kernel_rfl
  have := List.all_eq_true.1 hall t (Array.mem_toList_iff.2 (Array.mem_of_getElem? ht))
  have h2 : Tryd.prog.wantsStandIn t = false := by simpa using this
  exact h2

theorem proved : Rows.LexRemarksCardSaid :=
  Claim7.holds_tied_plain_at .later [] _ _ _ _ said (fun _ h => by cases h) (by kernel_rfl) (fun _ h => by cases h) lexRemarks_row_tie rfl ⟨rfl, rfl⟩ (by kernel_rfl) rfl plain (by kernel_rfl)
#print axioms proved
end Go.Proofs.YthbaoocnnfnhnaaDoor.lexRemarks
