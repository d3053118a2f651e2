/- Of a text with a wrong line behind a config's that line is told, or one of the config's own ahead of it is. No condition. -/
import Derived.Test.YtdcmjjinmnbaoaaDoorMF
namespace Go.Proofs.YtdcmjjinmnbaoaaDoor.confFirst
open Go.ChangeShapes Go.WideShapes Go.ChangeAt Go.RowKit Go.Proofs.YtdcmjjinmnbaoaaDoor
set_option linter.unusedVariables false

def badV : Array Value := #[.string ⟨#[119, 104, 97, 116, 32, 55]⟩, .string ⟨#[113, 117, 111, 114, 117, 109, 32, 49]⟩, .string ⟨#[115, 101, 114, 118, 101, 114]⟩, .string ⟨#[115, 108, 101, 119, 32, 49, 32, 50]⟩, .string ⟨#[100, 101, 108, 97, 121, 32, 120]⟩]
theorem badV_at : ∀ k, k < 5 → badV[k]? = some (.string (bs (badS k))) := by
  intro k hk
  rcases bounds5 k hk with rfl | rfl | rfl | rfl | rfl <;> rfl

set_option maxRecDepth 100000 in
set_option maxHeartbeats 16000000 in
theorem walk (a : Cfg) (pa : Option Addr) (ca : Nat) (l : List UInt8) (hl : l.length ≤ 9223372036854775807) (w : World) (ia : IntsL w pa a.srv) (la : a.srv.length ≤ ca) (hca : ca ≤ 9223372036854775807) (hL : LaidN w) :
    Calls Tryd.prog 8 #[a.val pa ca, .string (bs l)] w fun e w' => e = .returned (.bool true) ∧ Mod NoB w w' := by
  have hmw : Mod NoB w (w.alloc (.cells #[.slice pa a.srv.length ca, .int .i64 a.q, .int .i64 a.l, .int .i64 a.m, .int .i64 a.d, .int .i64 a.s] 25)) := (Mod.refl _ _).alloc _
  have hb0 := heap_alloc_new w (.cells #[.slice pa a.srv.length ca, .int .i64 a.q, .int .i64 a.l, .int .i64 a.m, .int .i64 a.d, .int .i64 a.s] 25)
  obtain ⟨W1, hW1⟩ : ∃ W1, w.alloc (.cells #[.slice pa a.srv.length ca, .int .i64 a.q, .int .i64 a.l, .int .i64 a.m, .int .i64 a.d, .int .i64 a.s] 25) = W1 := ⟨_, rfl⟩
  rw [hW1] at hmw hb0
  replace hL := hide hL
  have hm : Hid (Mod NoB w W1) := hide hmw
  replace ia := hide (ia.mod0 hmw)
  obtain ⟨a0, a1, a2, a3, a4, a5, -⟩ := six_of hb0
  replace hW1 := hide hW1
  replace hb0 := hide hb0
  clear hmw
  go_enter Tryd.func8, Tryd.ntmps8
  go_upto_region 1 with (fail)
  rw [hW1.out]
  by_cases h16 : 16 < a.srv.length
  · go_wp2_with fail
    refine (print_big pa a.srv.length ca a.q a.l a.m a.d a.s _ h16).mono ?_
    rintro e w2 ⟨rfl, hm2⟩
    have hb2 := hm2.heap hb0.out id
    replace hm := hide (hm.out.trans hm2)
    clear hm2 a0 a1 a2 a3 a4 a5
    have a0 := cell_of_block hb2 0 (v := .slice pa a.srv.length ca) rfl
    replace hb2 := hide hb2
    have hl11 : ((11 : Int) != 0) = true := by decide
    by_cases h50 : 50 < a.srv.length
    · skip
      go_wp2_with fail
      refine (calive_any _ (hL.out.mod hm.out)).mono ?_
      rintro e w3 ⟨rfl, hm2⟩
      replace hm := hide (hm.out.trans hm2)
      clear hm2
      go_wp2
      go_ret
      exact ⟨rfl, hm.out⟩
    · by_cases h100 : 100 < l.length
      · skip
        go_wp2_with fail
        refine (calive_any _ (hL.out.mod hm.out)).mono ?_
        rintro e w3 ⟨rfl, hm2⟩
        replace hm := hide (hm.out.trans hm2)
        clear hm2
        go_wp2
        go_ret
        exact ⟨rfl, hm.out⟩
      · skip
        go_wp2_with fail
        refine (calive_any _ (hL.out.mod hm.out)).mono ?_
        rintro e w3 ⟨rfl, hm2⟩
        replace hm := hide (hm.out.trans hm2)
        clear hm2
        go_wp2
        go_ret
        exact ⟨rfl, hm.out⟩
  · have hprint := hide (print_any pa a.srv ca a.q a.l a.m a.d a.s W1 ia.out la (by omega) (hL.out.mod hm.out))
    obtain ⟨f, hf⟩ : ∃ f, checkC a = f := ⟨_, rfl⟩
    have hf' : checkR a.srv a.q a.l a.m a.d a.s = f := hf
    unfold PrintOut at hprint
    rw [hf'] at hprint
    obtain ⟨tx, htx⟩ : ∃ tx, (if f = 0 then printT a.srv a.q a.l a.m a.d a.s else []) = tx := ⟨_, rfl⟩
    rw [htx] at hprint
    replace hprint := hide hprint.out
    replace htx := hide htx
    clear hf'
    go_wp2_with fail
    refine hprint.out.mono ?_
    rintro e w2 ⟨rfl, hm2⟩
    replace hb0 := hide (hm2.heap hb0.out id)
    replace ia := hide (ia.out.mod0 hm2)
    replace hm := hide (hm.out.trans hm2)
    clear hm2 a0 a1 a2 a3 a4 a5
    have a0 := cell_of_block hb0.out 0 (v := .slice pa a.srv.length ca) rfl
    have h50 : decide ((50 : Int) < (a.srv.length : Int)) = false := by simp; omega
    by_cases h100 : 100 < l.length
    · have h100d : decide ((100 : Int) < (l.length : Int)) = true := by simp; omega
      replace hf := hide hf
      go_wp2_with fail
      refine (calive_any _ (hL.out.mod hm.out)).mono ?_
      rintro e w3 ⟨rfl, hm2⟩
      replace hm := hide (hm.out.trans hm2)
      clear hm2
      go_wp2
      go_ret
      exact ⟨rfl, hm.out⟩
    · have h100d : decide ((100 : Int) < (l.length : Int)) = false := by simp; omega
      by_cases hf1 : f = 0
      · subst hf1
        have hf0 : checkC a = 0 := hf
        have hcont := Tryd.strings_Contains_one (bs l) 10
        have hbl : (bs l).data.toList = l := by simp
        rw [hbl] at hcont
        by_cases h10 : (10 : UInt8) ∈ l
        · rw [index_some h10] at hcont
          replace hcont := hide hcont
          replace hf := hide hf
          replace hf0 := hide hf0
          clear hbl h10
          go_wp2_with fail
          refine (hcont.out _).mono ?_
          rintro e w3 ⟨rfl, rfl⟩
          go_wp2_with fail
          refine (calive_any _ (hL.out.mod hm.out)).mono ?_
          rintro e w4 ⟨rfl, hm2⟩
          replace hm := hide (hm.out.trans hm2)
          clear hm2
          go_wp2
          go_ret
          exact ⟨rfl, hm.out⟩
        · rw [index_none h10] at hcont
          replace hcont := hide hcont
          replace hf := hide hf
          replace hf0 := hide hf0
          clear hbl
          go_wp2_with fail
          refine (hcont.out _).mono ?_
          rintro e w3 ⟨rfl, rfl⟩
          replace hf0 := hf0.out
          have hf := hf0
          have hfi := check_fine hf
          have htx2 : printT a.srv a.q a.l a.m a.d a.s = tx := by rw [← htx.out]; simp
          have htl : tx.length ≤ 500 := by rw [← htx2]; exact printT_len hfi
          have hcnt : Lib.countByte tx 10 = a.srv.length + 4 := by rw [← htx2, countByte_eq, printT_count hf, items_len]
          have hN := items_len a
          have hpb := fun i (hi : i < 5) w' (h : LaidN w') => parse_any (tx ++ badS i) (by have := (badS_text i hi).2.1; simp; omega) w' h
          have hpb' : ∀ i, i < 5 → parseR (tx ++ badS i) = (cfg0, ((a.srv.length + 5 : Nat) : Int), badE i) := fun i hi => by rw [← htx2, parse_tail hf (badS_text i hi).1 (by have := (badS_text i hi).2.1; omega), tail_bad a hi, hN]
          have hpl := fun w' (h : LaidN w') => parse_any (tx ++ l) (by simp; omega) w' h
          have htr : parseR (tx ++ l) = tailR a l := by rw [← htx2]; exact parse_tail hf h10 (by omega)
          have htl2 := tail_line a l
          rw [← htr, hN] at htl2
          have hct := Tryd.strings_Count_one (bs tx) 10
          have hbt : (bs tx).data.toList = tx := by simp
          have hcnt2 : (Lib.countByte (bs tx).data.toList 10 : Int) = (a.srv.length : Int) + 4 := by rw [hbt, hcnt]; rfl
          simp only [hcnt2] at hct
          have hsm := hfi.few
          replace hct := hide hct
          replace hpb := hide hpb
          replace hpb' := hide hpb'
          replace hpl := hide hpl
          replace htr := hide htr
          replace htl2 := hide htl2
          replace hf := hide hf
          replace hfi := hide hfi
          replace htx2 := hide htx2
          replace hcnt := hide hcnt
          replace hN := hide hN
          clear hcnt2 hbt
          go_wp2_with fail
          refine (hct.out _).mono ?_
          rintro e w5 ⟨rfl, rfl⟩
          rename_i w5
          have hks : Hid ((w5.alloc (.cells badV 9)).heap[w5.heap.size]? = some (.cells badV 9 (0, 0))) := hide (heap_alloc_new _ _)
          have hm5 : Hid (Mod NoB w5 (w5.alloc (.cells badV 9))) := hide ((Mod.refl _ _).alloc _)
          go_wp2_with fail
          obtain ⟨W6, hW6⟩ : ∃ W6, w5.alloc (.cells badV 9) = W6 := ⟨_, rfl⟩
          rw [hW6] at hks hm5
          have hW6' := hW6
          unfold badV at hW6'
          rw [hW6']
          replace hW6 := hide hW6
          replace hW6' := hide hW6'
          replace hm := hide (hm.out.trans hm5.out)
          replace ia := hide (ia.out.mod0 hm5.out)
          replace hb0 := hide (hm5.out.heap hb0.out id)
          go_loopw [43] (fun vi wr => ∃ i : Nat, i ≤ 5 ∧ vi = .int .i64 i ∧ Mod NoB W6 wr) (fun vi _ => 5 - (intOf vi).toNat)
          case atStart => exact ⟨0, by omega, rfl, Mod.refl _ _⟩
          case round =>
              obtain ⟨i, hi, rfl, hmr⟩ := hrel
              have hi0 : (0 : Int) ≤ (i : Int) := by omega
              by_cases hlt : i < 5
              · skip
                have hcx := cell_of_block (hmr.heap hks.out id) i (badV_at i hlt)
                have hi5 : (i : Int) < 5 := by omega
                have hpbi := hpb.out i hlt
                rw [hpb'.out i hlt] at hpbi
                have hbe := (badS_text i hlt).2.2.2.2
                have hbl := (badS_text i hlt).2.1
                obtain ⟨xb, hxb⟩ : ∃ x, badS i = x := ⟨_, rfl⟩
                obtain ⟨er, her⟩ : ∃ x, badE i = x := ⟨_, rfl⟩
                rw [hxb] at hcx hpbi hbl
                rw [her] at hpbi hbe
                replace hpbi := hide hpbi
                replace hxb := hide hxb
                replace her := hide her
                replace hmr := hide hmr
                have heb : (er == 0) = false := beq_eq_false_iff_ne.mpr hbe
                clear hbe
                go_wp2_with fail
                rw [bs_app]
                refine (hpbi.out _ (hL.out.mod (hm.out.trans hmr.out))).mono ?_
                rintro e w8 ⟨ho, hm2⟩
                obtain ⟨px, cx, rfl, -, -, -, -⟩ := ho.vals rfl rfl rfl
                clear ho
                replace hmr := hide (hmr.out.trans hm2)
                clear hm2
                have hne : (((a.srv.length + 5 : Nat) : Int) != (a.srv.length : Int) + 4 + 1) = false := by simp; omega
                go_wp2_with fail
                go_roundw
                case rel => exact ⟨i + 1, by omega, by go_num, hmr.out.alloc _⟩
                case measure => simp [intOf]; omega
              · skip
                obtain rfl : i = 5 := by omega
                have hm2 := hmr
                replace hb0 := hide (hm2.heap hb0.out id)
                replace ia := hide (ia.out.mod0 hm2)
                replace hm := hide (hm.out.trans hm2)
                clear hm2
                obtain ⟨d, n, er, hv⟩ : ∃ d n er, parseR (tx ++ l) = (d, n, er) := ⟨_, _, _, rfl⟩
                have h3 := htl2.out
                rw [hv] at h3
                have hpl2 := fun w' (h : LaidN w') => hpl.out w' h
                rw [hv] at hpl2
                replace hpl2 := hide hpl2
                change er = 0 ∨ n = ((a.srv.length + 4 + 1 : Nat) : Int) ∨ n = 0 at h3
                clear hv
                go_wp2_with fail
                rw [bs_app]
                refine (hpl2.out _ (hL.out.mod hm.out)).mono ?_
                rintro e w8 ⟨ho, hm2⟩
                obtain ⟨px, cx, rfl, -, -, -, -⟩ := ho.vals rfl rfl rfl
                clear ho
                replace hb0 := hide (hm2.heap hb0.out id)
                replace ia := hide (ia.out.mod0 hm2)
                replace hm := hide (hm.out.trans hm2)
                clear hm2
                replace h3 := hide h3
                go_wp2_with fail
                refine (calive_any _ (hL.out.mod (hm.out.alloc _))).mono ?_
                rintro e w9 ⟨rfl, hm2⟩
                replace hm := hide ((hm.out.alloc _).trans hm2)
                clear hm2
                by_cases he : er = 0
                · have heb : (er == 0) = true := by rw [he]; rfl
                  clear he
                  go_wp2
                  go_ret
                  exact ⟨rfl, hm.out⟩
                · have heb : (er == 0) = false := beq_eq_false_iff_ne.mpr he
                  rcases h3.out with h4 | h4 | h4
                  · exact absurd h4 he
                  · have hnb : (n == (a.srv.length : Int) + 4 + 1) = true := by rw [h4]; simp
                    clear he h4
                    go_wp2
                    go_ret
                    exact ⟨rfl, hm.out⟩
                  · have hnb : ((0 : Int) == (a.srv.length : Int) + 4 + 1) = false := beq_eq_false_iff_ne.mpr (by omega)
                    subst h4
                    clear he
                    go_wp2
                    go_ret
                    exact ⟨rfl, hm.out⟩

      · have hfb : (f != 0) = true := by simpa [bne_iff_ne] using hf1
        replace hf := hide hf
        clear hf1
        go_wp2_with fail
        refine (calive_any _ (hL.out.mod hm.out)).mono ?_
        rintro e w3 ⟨rfl, hm2⟩
        replace hm := hide (hm.out.trans hm2)
        clear hm2
        go_wp2
        go_ret
        exact ⟨rfl, hm.out⟩

theorem own : ownKnob Tryd.prog.godebug = none := by kernel_rfl

theorem laid_met (os : Os) : laidMet Tryd.prog Rows.confFirstRow.laid ((World.laidAll Tryd.prog os Rows.confFirstRow.laid).forCall (fun _ _ => 0) ⟨#[], #[.agg #[.slice none 0 0, .int .i64 0, .int .i64 0, .int .i64 0, .int .i64 0, .int .i64 0], .string ⟨#[]⟩], []⟩).memory :=
  laidMet_laidAll _ (by kernel_rfl) (by kernel_rfl)
theorem reads (os : Os) {H : Type} (enc : TypeId × Value → H) : ∃ places, DataW.whole enc Tryd.prog ((World.laidAll Tryd.prog os Rows.confFirstRow.laid).forCall (fun _ _ => 0) ⟨#[], #[.agg #[.slice none 0 0, .int .i64 0, .int .i64 0, .int .i64 0, .int .i64 0, .int .i64 0], .string ⟨#[]⟩], []⟩).memory Tryd.f8.params.toList Rows.confFirstSpec.vars false #[.agg #[.slice none 0 0, .int .i64 0, .int .i64 0, .int .i64 0, .int .i64 0, .int .i64 0], .string ⟨#[]⟩].toList 8 = some ([.agg [.nil, .lit (.int .i64 0), .lit (.int .i64 0), .lit (.int .i64 0), .lit (.int .i64 0), .lit (.int .i64 0)], .lit (.string [])], [], places) :=
  ⟨[], by kernel_rfl⟩

set_option maxRecDepth 100000 in
theorem lifted (os : Os) (started : os.Started) (H : Type) (enc : TypeId × Value → H) (F : Stop.Interp) :
    ReturnsInHanded {} Tryd.checked os 8 .any ((OpenSpec.ofChange Rows.confFirstSpec).preRow enc Tryd.prog Tryd.f8 Rows.confFirstRow.domain false Rows.confFirstRow.laid) (((OpenSpec.ofChange Rows.confFirstSpec).at F).post enc Tryd.prog Tryd.f8 false true false false) := by
  obtain ⟨places, hx⟩ := reads os enc
  refine law_row (C := Tryd.checked) (bt := 4) own started (by kernel_rfl) Tryd.func8 (by kernel_rfl) (by kernel_rfl) (by kernel_rfl) Tryd.underlying4 rfl ?_ rfl
    (witness_row_atRef (enc := enc) (C := Tryd.checked) false (World.laidAll Tryd.prog os Rows.confFirstRow.laid) #[.agg #[.slice none 0 0, .int .i64 0, .int .i64 0, .int .i64 0, .int .i64 0, .int .i64 0], .string ⟨#[]⟩] (World.laidAll_os _ _ _) (by kernel_rfl) (by kernel_rfl) (by kernel_rfl)
      (OpenSpec.preRow_of_cond 8 hx (by kernel_rfl) (fun k hk => by cases hk) (by kernel_rfl) (laid_met os))) ?_
  · intro ds h
    match ds, h with
    | [d0, d1], _ => rfl
  · intro W base args ds ps hval0 hA0 hsz hL hsh
    have hval : ∀ (j : Nat) t v, Tryd.f8.params[j]? = some t → args[j]? = some v → Value.okWide Tryd.prog W .any base t v := hval0
    have hA : DataW.TrodAll enc Tryd.prog W 0 (fun _ => true) true Tryd.f8.params.toList args.toList ds ps := hA0
    have hLd := laidN_of (by simp [Rows.confFirstRow]) (by simp [Rows.confFirstRow]) (by simp [Rows.confFirstRow]) hL
    rw [Tryd.params8] at hA hval
    obtain ⟨v0, v1, d0, d1, p0, p1, rfl, rfl, rfl, h0, h1⟩ := trodAll_two hA
    obtain ⟨a, pa, ca, rfl, ia, la, ma, ka⟩ := open_cfg (hval 0 _ _ rfl rfl) h0
    obtain ⟨l, rfl, wl⟩ := open_bs Tryd.underlying9 (hval 1 _ _ rfl rfl) h1
    exact walk a pa ca l wl W ia la ma hLd

theorem said : Rows.ConfFirstSaid :=
  OpenClaim.holds_of_cond 8 Tryd.f8 rfl rfl rfl rfl rfl rfl rfl ⟨rfl, rfl, rfl, rfl, rfl⟩ rfl rfl rfl rfl rfl (by kernel_rfl) Tryd.func8 (by kernel_rfl)
    (of_decide_eq_true (by kernel_rfl)) (by unfold Func.isWrapper; first | (rw [if_pos (by decide +kernel)]; kernel_rfl) | (rw [if_neg (by decide +kernel)]; exact ⟨rfl, rfl⟩))
    (fun os started H enc _ F => by rw [OpenClaim.pre_eq_preRow]; exact lifted os started H enc F)

theorem plain (f : FuncId) (fn : Func) (hf : Tryd.pinned.checked.prog.funcNamed "chronobate/chronobatelaw06.ConfFirst" = some f) (hfn : Tryd.pinned.checked.prog.funcs[f]? = some fn) :
    true = Tryd.pinned.checked.prog.looks [] ∧ ∀ (j : Nat) t, fn.params[j]? = some t → Tryd.pinned.checked.prog.wantsStandIn t = false := by
  obtain rfl : f = 8 := Option.some.inj ((show Tryd.prog.funcNamed "chronobate/chronobatelaw06.ConfFirst" = some 8 by kernel_rfl).symm.trans hf) |>.symm
  obtain rfl : fn = Tryd.f8 := (Option.some.inj (Tryd.func8.symm.trans hfn)).symm
  refine ⟨by kernel_rfl, fun j t ht => ?_⟩
  have hall : (Tryd.f8.params.toList.all fun t => !(Tryd.prog.wantsStandIn t)) = true := by kernel_rfl
  have := List.all_eq_true.1 hall t (Array.mem_toList_iff.2 (Array.mem_of_getElem? ht))
  have h2 : Tryd.prog.wantsStandIn t = false := by simpa using this
  exact h2

theorem proved : Rows.ConfFirstCardSaid :=
  Claim7.holds_tied_plain_at .later [] _ _ _ _ said (fun _ h => by cases h) (by kernel_rfl) (fun _ h => by cases h) confFirst_row_tie rfl ⟨rfl, rfl⟩ (by kernel_rfl) rfl plain (by kernel_rfl)
#print axioms proved
end Go.Proofs.YtdcmjjinmnbaoaaDoor.confFirst
