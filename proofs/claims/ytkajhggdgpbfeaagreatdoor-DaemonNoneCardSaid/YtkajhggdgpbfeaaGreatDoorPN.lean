/- Of no daemon nothing is told; a config that may not be makes none. No condition. -/
import Derived.Test.YtkajhggdgpbfeaaGreatDoorPNbh
import Derived.Test.YtkajhggdgpbfeaaGreatDoorPNbj
import Derived.Test.YtkajhggdgpbfeaaGreatDoorPNap
import Derived.Lay
namespace Go.Proofs.YtkajhggdgpbfeaaGreatDoor.daemonNone
open Go.ChangeShapes Go.WideShapes Go.ChangeAt Go.RowKit Go.Proofs.YtkajhggdgpbfeaaGreatDoor
set_option linter.unusedVariables false

theorem field0 (w : World) : (Instr.field 59 (.agg #[.slice none 0 0, .int .i64 0, .int .i64 0, .int .i64 0, .int .i64 0, .int .i64 0]) 0).run Tryz.prog w = .ok (.slice none 0 0) w := by kernel_rfl
theorem newOut_cases (l : List UInt8) : (∃ cf line er, parseR l = (cf, line, er) ∧ er ≠ 0 ∧ newOut l 0 0 = .inl (line, er)) ∨ (∃ cf, parseR l = (cf, 0, 0) ∧ newOut l 0 0 = .inr cf) := by
  have h0 : newErr 0 0 = 0 := by decide
  rcases parse_cases l with ⟨h1, h2, _⟩ | ⟨h1, _⟩
  · refine Or.inr ⟨(parseR l).1, ?_, ?_⟩
    · rw [← h1]
      conv => rhs; arg 2; arg 1; rw [h1, ← h2]
    · unfold newOut
      rw [if_neg (by rw [h1]; simp), if_neg (by rw [h0]; simp)]
  · refine Or.inl ⟨(parseR l).1, (parseR l).2.1, (parseR l).2.2, rfl, h1, ?_⟩
    unfold newOut
    rw [if_pos h1]
set_option maxRecDepth 100000 in
set_option maxHeartbeats 8000000 in
theorem walk (k h a : Int) (draw : Nat) (p : Option Addr) (c : Nat) (b : List Nat) (l : List UInt8) (hl : l.length ≤ 9223372036854775807) (w : World) (hL : LaidN w) :
    Calls Tryz.prog 10 #[evV k h a draw (.slice p b.length c), .string (bs l)] w fun e w' => e = .returned (.bool true) ∧ Mod NoB w w' := by
  have hal := hide (fun wx (hm : Mod NoB w wx) => alive_any wx (hL.mod hm))
  replace hL := hide hL
  have d1 := hide (fun wx => do_nil k h a draw p b.length c wx)
  have d2 := hide (fun wx => dread_nil h wx)
  have d3 := hide (fun wx => dlast_nil wx)
  have d4 := hide (fun wx => dcount_nil 0 wx)
  have d5 := hide (fun wx => dcounts_nil wx)
  have d6 := hide (fun wx => dchosen_nil wx)
  have d7 := hide (fun wx => dconfig_nil wx)
  have d8 := hide (fun wx => dstate_nil a wx)
  have hm1 : Mod NoB w (w.alloc (.cells #[.int .i64 k, .int .i64 h, .int .i64 a, .int .u64 (draw : Int), .slice p b.length c] 33)) := (Mod.refl _ _).alloc _
  have hb1 := heap_alloc_new w (.cells #[.int .i64 k, .int .i64 h, .int .i64 a, .int .u64 (draw : Int), .slice p b.length c] 33)
  replace hm1 := hide hm1
  replace hb1 := hide hb1
  go_enter Tryz.func10, Tryz.ntmps10
  go_upto_region 2 with (fail)
  generalize w.alloc (.cells #[.int .i64 k, .int .i64 h, .int .i64 a, .int .u64 (draw : Int), .slice p b.length c] 33) = w1 at *
  have e0 := cell_of_block hb1.out 0 (v := .int .i64 k) rfl
  have e1 := cell_of_block hb1.out 1 (v := .int .i64 h) rfl
  have e2 := cell_of_block hb1.out 2 (v := .int .i64 a) rfl
  have e3 := cell_of_block hb1.out 3 (v := .int .u64 (draw : Int)) rfl
  have e4 := cell_of_block hb1.out 4 (v := .slice p b.length c) rfl
  go_wp2_with fail
  refine (d1.out _).mono ?_
  rintro e w2 ⟨rfl, hm2⟩
  clear d1 e0 e1 e2 e3 e4
  go_upto_region 3 with (fail)
  have hb2 := hide (((hm2.alloc (.cells #[.slice none 0 0, .int .i64 0, .int .i64 0, .int .i64 0] 39))).heap hb1.out id)
  have ho2 := heap_alloc_new w2 (.cells #[.slice none 0 0, .int .i64 0, .int .i64 0, .int .i64 0] 39)
  replace hm1 := hide (hm1.out.trans (hm2.alloc (.cells #[.slice none 0 0, .int .i64 0, .int .i64 0, .int .i64 0] 39)))
  clear hb1 hm2
  generalize w2.alloc (.cells #[.slice none 0 0, .int .i64 0, .int .i64 0, .int .i64 0] 39) = w3 at *
  have e1 := cell_of_block hb2.out 1 (v := .int .i64 h) rfl
  replace ho2 := hide ho2
  go_wp2_with fail
  refine (d2.out _).mono ?_
  rintro e w4 ⟨rfl, rfl⟩
  clear d2 e1
  go_wp2_with fail
  refine (d3.out _).mono ?_
  rintro e w5 ⟨rfl, rfl⟩
  clear d3
  have ll := lt_of_block hb2.out
  have lo := lt_of_block ho2.out
  have x0 := cell_of_block ho2.out 0 (v := .slice none 0 0) rfl
  have x1 := cell_of_block ho2.out 1 (v := .int .i64 0) rfl
  have e2 := cell_of_block hb2.out 2 (v := .int .i64 a) rfl
  go_wp2_with fail
  refine (d4.out _).mono ?_
  rintro e w6 ⟨rfl, rfl⟩
  go_wp2_with fail
  refine (d5.out _).mono ?_
  rintro e w6 ⟨rfl, rfl⟩
  go_wp2_with fail
  refine (d6.out _).mono ?_
  rintro e w6 ⟨rfl, rfl⟩
  go_wp2_with fail
  refine (d7.out _).mono ?_
  rintro e w6 ⟨rfl, hm6⟩
  have e2' := hm6.cellAt id e2
  replace hm1 := hide (hm1.out.trans hm6)
  clear d4 d5 d6 d7 e2 x0 x1 ll lo hb2 ho2 hm6
  have hfd := field0
  go_wp2_with fail
  refine (d8.out _).mono ?_
  rintro e w7 ⟨rfl, rfl⟩
  clear d8 e2'
  by_cases h2 : 2000 < l.length
  · skip
    go_wp2_with fail
    refine (hal.out _ hm1.out).mono ?_
    rintro e w8 ⟨rfl, hm8⟩
    replace hm1 := hide (hm1.out.trans hm8)
    clear hm8
    go_wp2_with fail
    go_ret
    exact ⟨rfl, hm1.out⟩
  · have hnw := hide (new_any l hl 0 0 w6 (hL.out.mod hm1.out))
    have hrp := hide (fun wx => rparse_any l (by omega) wx)
    have hnc := hide (newOut_cases l)
    go_wp2_with fail
    refine hnw.out.mono ?_
    rintro e w8 ⟨hm8, hpo⟩
    rcases hnc.out with ⟨cf, line, er, hpr, her, hno⟩ | ⟨cf, hpr, hno⟩
    · rcases hpo with ⟨line', er', rfl, ho⟩ | ⟨P, cf', rfl, ho, hd, hf⟩
      · rw [hno] at ho
        cases ho
        have hb0 : (er != 0) = true := by simpa using her
        replace hm1 := hide (hm1.out.trans hm8)
        replace hpr := hide hpr
        replace hno := hide hno
        replace her := hide her
        clear hm8 hnw
        go_wp2_with fail
        refine (hrp.out _).mono ?_
        rintro e w9 ⟨ho, hm9⟩
        obtain ⟨p2, c2, rfl, -, -, -, -⟩ := ho.of hpr.out
        replace hm1 := hide (hm1.out.trans hm9)
        clear ho hm9 hrp
        go_upto_region 9 with (fail)
        replace hm1 := hide (hm1.out.alloc (.cells #[.slice p2 cf.srv.length c2, .int .i64 cf.q, .int .i64 cf.l, .int .i64 cf.m, .int .i64 cf.d, .int .i64 cf.s] 59))
        go_wp2_with fail
        refine (hal.out _ hm1.out).mono ?_
        rintro e wa ⟨rfl, hma⟩
        replace hm1 := hide (hm1.out.trans hma)
        clear hma
        go_wp2_with fail
        go_ret
        exact ⟨rfl, hm1.out⟩
      · rw [hno] at ho; cases ho
    · rcases hpo with ⟨line', er', rfl, ho⟩ | ⟨P, cf', rfl, ho, hd, hf⟩
      · rw [hno] at ho; cases ho
      · replace hm1 := hide (hm1.out.trans hm8)
        replace hpr := hide hpr
        replace hno := hide hno
        clear hm8 hnw hd hf ho
        go_wp2_with fail
        refine (hrp.out _).mono ?_
        rintro e w9 ⟨ho, hm9⟩
        obtain ⟨p2, c2, rfl, -, -, -, -⟩ := ho.of hpr.out
        replace hm1 := hide (hm1.out.trans hm9)
        clear ho hm9 hrp
        go_upto_region 9 with (fail)
        replace hm1 := hide (hm1.out.alloc (.cells #[.slice p2 cf.srv.length c2, .int .i64 cf.q, .int .i64 cf.l, .int .i64 cf.m, .int .i64 cf.d, .int .i64 cf.s] 59))
        go_wp2_with fail
        refine (hal.out _ hm1.out).mono ?_
        rintro e wa ⟨rfl, hma⟩
        replace hm1 := hide (hm1.out.trans hma)
        clear hma
        go_wp2_with fail
        go_ret
        exact ⟨rfl, hm1.out⟩

theorem own : ownKnob Tryz.prog.godebug = none := by kernel_rfl

theorem laid_met (os : Os) : laidMet Tryz.prog Rows.daemonNoneRow.laid ((World.laidAll Tryz.prog os Rows.daemonNoneRow.laid).forCall (fun _ _ => 0) ⟨#[], #[.agg #[.int .i64 0, .int .i64 0, .int .i64 0, .int .u64 0, .slice none 0 0], .string ⟨#[]⟩], []⟩).memory :=
  laidMet_laidAll _ (by kernel_rfl) (by kernel_rfl)
theorem reads (os : Os) {H : Type} (enc : TypeId × Value → H) : ∃ places, DataW.whole enc Tryz.prog ((World.laidAll Tryz.prog os Rows.daemonNoneRow.laid).forCall (fun _ _ => 0) ⟨#[], #[.agg #[.int .i64 0, .int .i64 0, .int .i64 0, .int .u64 0, .slice none 0 0], .string ⟨#[]⟩], []⟩).memory Tryz.f10.params.toList Rows.daemonNoneSpec.vars false #[.agg #[.int .i64 0, .int .i64 0, .int .i64 0, .int .u64 0, .slice none 0 0], .string ⟨#[]⟩].toList 8 = some ([.agg [.lit (.int .i64 0), .lit (.int .i64 0), .lit (.int .i64 0), .lit (.int .u64 0), .nil], .lit (.string [])], [], places) :=
  ⟨[], by kernel_rfl⟩

set_option maxRecDepth 100000 in
theorem lifted (os : Os) (started : os.Started) (H : Type) (enc : TypeId × Value → H) (F : Stop.Interp) :
    ReturnsInHanded {} Tryz.checked os 10 .any ((OpenSpec.ofChange Rows.daemonNoneSpec).preRow enc Tryz.prog Tryz.f10 Rows.daemonNoneRow.domain false Rows.daemonNoneRow.laid) (((OpenSpec.ofChange Rows.daemonNoneSpec).at F).post enc Tryz.prog Tryz.f10 false true false false) := by
  obtain ⟨places, hx⟩ := reads os enc
  refine law_row (C := Tryz.checked) (bt := 4) own started (by kernel_rfl) Tryz.func10 (by kernel_rfl) (by kernel_rfl) (by kernel_rfl) Tryz.underlying4 rfl ?_ rfl
    (witness_row_atRef (enc := enc) (C := Tryz.checked) false (World.laidAll Tryz.prog os Rows.daemonNoneRow.laid) #[.agg #[.int .i64 0, .int .i64 0, .int .i64 0, .int .u64 0, .slice none 0 0], .string ⟨#[]⟩] (World.laidAll_os _ _ _) (by kernel_rfl) (by kernel_rfl) (by kernel_rfl)
      (OpenSpec.preRow_of_cond 8 hx (by kernel_rfl) (fun k hk => by cases hk) (by kernel_rfl) (laid_met os))) ?_
  · intro ds h
    match ds, h with
    | [d0, d1], _ => rfl
  · intro W base args ds ps hval0 hA0 hsz hL hsh
    have hval : ∀ (j : Nat) t v, Tryz.f10.params[j]? = some t → args[j]? = some v → Value.okWide Tryz.prog W .any base t v := hval0
    have hA : DataW.TrodAll enc Tryz.prog W 0 (fun _ => true) true Tryz.f10.params.toList args.toList ds ps := hA0
    have hLd := laidN_of (by simp [Rows.daemonNoneRow]) (by simp [Rows.daemonNoneRow]) (by simp [Rows.daemonNoneRow]) hL
    rw [Tryz.params10] at hA hval
    obtain ⟨v0, v1, d0, d1, p0, p1, rfl, rfl, rfl, h0, h1⟩ := trodAll_two hA
    obtain ⟨k, hh, a, draw, p, c, b, rfl, hdat, wk, wh, wa, wd⟩ := open_ev (hval 0 _ _ rfl rfl) h0
    obtain ⟨l, rfl, wl⟩ := open_bs Tryz.underlying9 (hval 1 _ _ rfl rfl) h1
    exact walk k hh a draw p c b l wl W hLd
theorem and_i {a b : Bool} (h : a = true) (k : b = true) : (a && b) = true := by rw [h, k]; rfl
set_option maxRecDepth 100000 in
set_option maxHeartbeats 40000000 in
theorem joined : joinedFacts Tryz.pinned.checked.prog 10 Tryz.f10 (OpenSpec.ofChange Rows.daemonNoneSpec).bare Rows.daemonNoneRow = true := by
  unfold joinedFacts
  repeat' (with_reducible refine and_i ?_ ?_)
  all_goals (as_aux_lemma => kernel_rfl)
theorem inst : (Tryz.f10).isInstance Tryz.pinned.checked.prog Rows.daemonNoneRow.origin Rows.daemonNoneRow.targs := of_decide_eq_true (by kernel_rfl)
theorem wrap : (Tryz.f10).isWrapper Tryz.pinned.checked.prog Rows.daemonNoneRow.wrapper Rows.daemonNoneRow.mainSum := by
  unfold Func.isWrapper
  first | (rw [if_pos (by decide +kernel)]; kernel_rfl) | (rw [if_neg (by decide +kernel)]; exact ⟨rfl, rfl⟩)
theorem fname : Tryz.pinned.checked.prog.funcNamed Rows.daemonNoneRow.func = some 10 := by kernel_rfl
theorem said : Rows.DaemonNoneSaid :=
  OpenClaim.holds_of_cond 10 Tryz.f10 rfl rfl rfl rfl rfl rfl rfl ⟨rfl, rfl, rfl, rfl, rfl⟩ rfl rfl rfl rfl rfl fname Tryz.func10 joined inst wrap
    (fun os started H enc _ F => by rw [OpenClaim.pre_eq_preRow]; exact lifted os started H enc F)

theorem plain (f : FuncId) (fn : Func) (hf : Tryz.pinned.checked.prog.funcNamed "chronobate/chronobatelaw17.DaemonNone" = some f) (hfn : Tryz.pinned.checked.prog.funcs[f]? = some fn) :
    true = Tryz.pinned.checked.prog.looks [] ∧ ∀ (j : Nat) t, fn.params[j]? = some t → Tryz.pinned.checked.prog.wantsStandIn t = false := by
  obtain rfl : f = 10 := Option.some.inj ((show Tryz.prog.funcNamed "chronobate/chronobatelaw17.DaemonNone" = some 10 by kernel_rfl).symm.trans hf) |>.symm
  obtain rfl : fn = Tryz.f10 := (Option.some.inj (Tryz.func10.symm.trans hfn)).symm
  refine ⟨by kernel_rfl, fun j t ht => ?_⟩
  have hall : (Tryz.f10.params.toList.all fun t => !(Tryz.prog.wantsStandIn t)) = true := by kernel_rfl
  have := List.all_eq_true.1 hall t (Array.mem_toList_iff.2 (Array.mem_of_getElem? ht))
  have h2 : Tryz.prog.wantsStandIn t = false := by simpa using this
  exact h2

theorem proved : Rows.DaemonNoneCardSaid :=
  Claim7.holds_tied_plain_at .later [] _ _ _ _ said (fun _ h => by cases h) (by kernel_rfl) (fun _ h => by cases h) daemonNone_row_tie rfl ⟨rfl, rfl⟩ (by kernel_rfl) rfl plain (by kernel_rfl)
#print axioms proved
end Go.Proofs.YtkajhggdgpbfeaaGreatDoor.daemonNone

