/- As many bytes as there may be are looked at, and none of one more. No condition. -/
import Derived.Test.YthbaoocnnfnhnaaDoorLxL
namespace Go.Proofs.YthbaoocnnfnhnaaDoor.lexLong
open Go.ChangeShapes Go.WideShapes Go.ChangeAt Go.RowKit Go.Proofs.YthbaoocnnfnhnaaDoor
set_option linter.unusedVariables false

set_option maxRecDepth 100000 in
set_option maxHeartbeats 8000000 in
theorem walk (v : Int) (h0 : 0 ≤ v) (h1 : v ≤ 255) (w : World) (hL : LaidS w) :
    Calls Tryd.prog 6 #[.int .u8 v] w fun e w' => e = .returned (.bool true) ∧ Mod NoB w w' := by
  replace hL := hide hL
  go_enter Tryd.func6, Tryd.ntmps6
  go_wp2_with fail
  obtain ⟨n, hn, hn1, hn2⟩ : ∃ n : Nat, 65535 + v % 3 = (n : Int) ∧ 65535 ≤ n ∧ n ≤ 65537 := ⟨(65535 + v % 3).toNat, by omega, by omega, by omega⟩
  generalize v % 3 = r at hn ⊢
  rw [hn]
  replace hn := hide hn
  have hrep : Calls Tryd.prog 17 #[.string ⟨#[97]⟩, .int .i64 n] w fun e w' => e = .returned (.string (bs (longL n))) ∧ Mod NoB w w' := by
    refine (Tryd.strings_Repeat ⟨#[97]⟩ n w (by omega) (by show 1 * n ≤ _; omega)).mono ?_
    rintro e w' ⟨rfl, hb⟩
    refine ⟨?_, Below.mod hb⟩
    show Ending.returned (.string ⟨(Lib.repeatL [97] n).toArray⟩) = _
    rw [long_rep]
  refine hrep.mono ?_
  rintro e w1 ⟨rfl, hm⟩
  replace hm := hide hm
  clear hrep
  by_cases h6 : 65536 < n
  · go_wp2_with fail
    refine (lines_long (longL n) (by rw [long_len]; exact h6) (by rw [long_len]; omega) _).mono ?_
    rintro e w2 ⟨rfl, hm2⟩
    replace hm := hide (hm.out.trans hm2)
    clear hm2
    go_wp2_with fail
    refine (alive_any _ (hL.out.mod hm.out)).mono ?_
    rintro e w3 ⟨rfl, hm2⟩
    replace hm := hide (hm.out.trans hm2)
    clear hm2
    go_wp2
    go_ret
    exact ⟨rfl, hm.out⟩
  · go_wp2_with fail
    refine (lines_walk (longL n) (by rw [long_len]; omega) _ (fun W hm' => hL.out.mod (hm.out.trans hm'))).mono ?_
    rw [show LinesOut w1 (longL n) = fun e w' => LinesOut w1 (longL n) e w' from rfl]
    rintro e w2 ⟨(⟨j, a1, a2, _⟩ | ⟨_, x, rfl, hv⟩), hm2⟩
    · rw [(one_part (long_ten n)).1] at a1
      obtain rfl : j = 0 := by omega
      rw [long_ok] at a2
      cases a2
    · rw [(one_part (long_ten n)).1, long_lines n (by omega)] at hv
      replace hm := hide (hm.out.trans hm2)
      clear hm2
      replace hv := hide hv
      obtain ⟨p, cap, rfl, -⟩ := hv.out.open
      go_wp2_with fail
      refine (alive_any _ (hL.out.mod hm.out)).mono ?_
      rintro e w3 ⟨rfl, hm2⟩
      obtain ⟨p', cap', e1, hc⟩ := (hv.out.mod hm2 (fun _ h => h.elim)).open
      cases e1
      replace hm := hide (hm.out.trans hm2)
      clear hm2
      obtain ⟨g, u0, c0, rfl, a1, a2, a3⟩ := hc 0 _ rfl
      obtain ⟨g0, q0, e0, -, -, f0⟩ := StrsAt.open a3 (by simp)
      cases e0
      have x1 := f0 0 _ rfl
      have hll := hide (long_len n)
      generalize longL n = l at x1 hll
      simp only [Nat.zero_mul, List.length_cons, List.length_nil, Nat.reduceAdd] at a1 a2 ⊢
      have hsz : (bs l).size = n := hll.out
      clear hc f0 a3
      go_wp2
      go_ret
      exact ⟨rfl, hm.out⟩

theorem own : ownKnob Tryd.prog.godebug = none := by kernel_rfl

theorem laid_met (os : Os) : laidMet Tryd.prog Rows.lexLongRow.laid ((World.laidAll Tryd.prog os Rows.lexLongRow.laid).forCall (fun _ _ => 0) ⟨#[], #[.int .u8 0], []⟩).memory :=
  laidMet_laidAll _ (by kernel_rfl) (by kernel_rfl)
theorem reads (os : Os) {H : Type} (enc : TypeId × Value → H) : ∃ places, DataW.whole enc Tryd.prog ((World.laidAll Tryd.prog os Rows.lexLongRow.laid).forCall (fun _ _ => 0) ⟨#[], #[.int .u8 0], []⟩).memory Tryd.f6.params.toList Rows.lexLongSpec.vars false #[.int .u8 0].toList 8 = some ([.lit (.int .u8 0)], [], places) :=
  ⟨[], by kernel_rfl⟩

set_option maxRecDepth 100000 in
theorem lifted (os : Os) (started : os.Started) (H : Type) (enc : TypeId × Value → H) (F : Stop.Interp) :
    ReturnsInHanded {} Tryd.checked os 6 .any ((OpenSpec.ofChange Rows.lexLongSpec).preRow enc Tryd.prog Tryd.f6 Rows.lexLongRow.domain false Rows.lexLongRow.laid) (((OpenSpec.ofChange Rows.lexLongSpec).at F).post enc Tryd.prog Tryd.f6 false true false false) := by
  obtain ⟨places, hx⟩ := reads os enc
  refine law_row (C := Tryd.checked) (bt := 4) own started (by kernel_rfl) Tryd.func6 (by kernel_rfl) (by kernel_rfl) (by kernel_rfl) Tryd.underlying4 rfl ?_ rfl
    (witness_row_atRef (enc := enc) (C := Tryd.checked) false (World.laidAll Tryd.prog os Rows.lexLongRow.laid) #[.int .u8 0] (World.laidAll_os _ _ _) (by kernel_rfl) (by kernel_rfl) (by kernel_rfl)
      (OpenSpec.preRow_of_cond 8 hx (by kernel_rfl) (fun k hk => by cases hk) (by kernel_rfl) (laid_met os))) ?_
  · intro ds h
    match ds, h with
    | [d0], _ => rfl
  · intro W base args ds ps hval0 hA0 hsz hL hsh
    have hval : ∀ (j : Nat) t v, Tryd.f6.params[j]? = some t → args[j]? = some v → Value.okWide Tryd.prog W .any base t v := hval0
    have hA : DataW.TrodAll enc Tryd.prog W 0 (fun _ => true) true Tryd.f6.params.toList args.toList ds ps := hA0
    have hLd := laidS_of (by simp [Rows.lexLongRow]) hL
    rw [Tryd.params6] at hA hval
    obtain ⟨v0, d0, rfl, rfl, h0⟩ := trodAll_one hA
    obtain ⟨v, rfl, rfl, rfl, wv⟩ := open_int Tryd.underlying5 (hval 0 _ _ rfl rfl) h0
    have hb := bounds_u8 wv
    exact walk v hb.1 hb.2 W hLd

theorem said : Rows.LexLongSaid :=
  OpenClaim.holds_of_cond 6 Tryd.f6 rfl rfl rfl rfl rfl rfl rfl ⟨rfl, rfl, rfl, rfl, rfl⟩ rfl rfl rfl rfl rfl (by kernel_rfl) Tryd.func6 (by kernel_rfl)
    (of_decide_eq_true (by kernel_rfl)) (by unfold Func.isWrapper; first | (rw [if_pos (by decide +kernel)]; kernel_rfl) | (rw [if_neg (by decide +kernel)]; exact ⟨rfl, rfl⟩))
    (fun os started H enc _ F => by rw [OpenClaim.pre_eq_preRow]; exact lifted os started H enc F)

theorem plain (f : FuncId) (fn : Func) (hf : Tryd.pinned.checked.prog.funcNamed "chronobate/chronobatelaw05.LexLong" = some f) (hfn : Tryd.pinned.checked.prog.funcs[f]? = some fn) :
    true = Tryd.pinned.checked.prog.looks [] ∧ ∀ (j : Nat) t, fn.params[j]? = some t → Tryd.pinned.checked.prog.wantsStandIn t = false := by
  obtain rfl : f = 6 := Option.some.inj ((show Tryd.prog.funcNamed "chronobate/chronobatelaw05.LexLong" = some 6 by kernel_rfl).symm.trans hf) |>.symm
  obtain rfl : fn = Tryd.f6 := (Option.some.inj (Tryd.func6.symm.trans hfn)).symm
  refine ⟨by kernel_rfl, fun j t ht => ?_⟩
  have hall : (Tryd.f6.params.toList.all fun t => !(Tryd.prog.wantsStandIn t)) = true := by kernel_rfl
  have := List.all_eq_true.1 hall t (Array.mem_toList_iff.2 (Array.mem_of_getElem? ht))
  have h2 : Tryd.prog.wantsStandIn t = false := by simpa using this
  exact h2

theorem proved : Rows.LexLongCardSaid :=
  Claim7.holds_tied_plain_at .later [] _ _ _ _ said (fun _ h => by cases h) (by kernel_rfl) (fun _ h => by cases h) lexLong_row_tie rfl ⟨rfl, rfl⟩ (by kernel_rfl) rfl plain (by kernel_rfl)
#print axioms proved
end Go.Proofs.YthbaoocnnfnhnaaDoor.lexLong
