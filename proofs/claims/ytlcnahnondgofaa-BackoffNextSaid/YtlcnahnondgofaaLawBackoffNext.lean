/- Of any two numbers of 16 bits the next one is never less, where it may be, nor more than twice, nor above the greatest. No condition. -/
import Derived.Test.YtlcnahnondgofaaBkD
namespace Go.Proofs.Ytlcnahnondgofaa.backoffNext
open Go.ChangeShapes Go.WideShapes Go.ChangeAt Go.RowKit Go.Proofs.Ytlcnahnondgofaa

theorem walk (a b : Int) (ha : 0 ≤ a ∧ a ≤ 65535) (hb : 0 ≤ b ∧ b ≤ 65535) (w : World) :
    Calls Try.prog 4 #[.int .u16 a, .int .u16 b] w fun e w' => e = .returned (.bool true) ∧ Mod NoB w w' := by
  obtain ⟨ha1, ha2⟩ := ha
  obtain ⟨hb1, hb2⟩ := hb
  have hz : ∃ n, nextZ a b = n ∧ n ≤ b ∧ n ≤ 2 * a ∧ (n = b ∨ n = 2 * a) ∧ (b < a ∨ a ≤ n) ∧ 0 ≤ n := by
    refine ⟨_, rfl, ?_⟩
    unfold nextZ
    repeat' split
    all_goals omega
  obtain ⟨n, hn, h1, h2, h3, h4, h5⟩ := hz
  replace hn := hide hn
  by_cases e1 : n = b
  · clear h3
    replace e1 := hide e1
    have d1 : (n == b) = true := by simpa using e1.out
    by_cases e2 : b < a
    all_goals
      go_enter Try.func4, Try.ntmps4
      go_wp2_with fail
      refine (next_any _ _ ⟨by omega, by omega⟩ ⟨by omega, by omega⟩ _).mono ?_
      rintro e w' ⟨rfl, rfl⟩
      rw [hn.out]
      go_wp2_with fail
      refine (alive_any _).mono ?_
      rintro e w1 ⟨rfl, hm⟩
      replace hm := hide hm
      go_wp2
      go_ret
      exact ⟨bool_ret (by first | rfl | (simp; omega)), hm.out⟩
  · replace h3 : n = 2 * a := h3.resolve_left e1
    have d0 : (n == b) = false := by simpa using e1
    have d1 : (n == 2 * a) = true := by simpa using h3
    clear e1 h3
    by_cases e2 : b < a
    all_goals
      go_enter Try.func4, Try.ntmps4
      go_wp2_with fail
      refine (next_any _ _ ⟨by omega, by omega⟩ ⟨by omega, by omega⟩ _).mono ?_
      rintro e w' ⟨rfl, rfl⟩
      rw [hn.out]
      go_wp2_with fail
      refine (alive_any _).mono ?_
      rintro e w1 ⟨rfl, hm⟩
      replace hm := hide hm
      go_wp2
      go_ret
      exact ⟨bool_ret (by first | rfl | (simp; omega)), hm.out⟩

theorem own : ownKnob Try.prog.godebug = none := by kernel_rfl

set_option maxRecDepth 100000 in
theorem lifted (os : Os) (started : os.Started) (H : Type) (enc : TypeId × Value → H) :
    ReturnsInHanded {} Try.checked os 4 .any (Rows.backoffNextSpec.pre6 enc Try.prog Try.f4 Rows.backoffNextRow.domain false) (Rows.backoffNextSpec.post enc Try.prog Try.f4 false true false false) := by
  refine law_lifted (C := Try.checked) (bt := 4) own started (by kernel_rfl) Try.func4 (by kernel_rfl) (by kernel_rfl) (by kernel_rfl) Try.underlying4 rfl ?_
    (ChangeSpec.witness6 (enc := enc) (C := Try.checked) false ⟨#[], #[.int .u16 0, .int .u16 0], []⟩ 8 (by kernel_rfl) (by kernel_rfl) (by kernel_rfl) (by kernel_rfl)) ?_
  · intro ds h
    match ds, h with
    | [d0, d1], _ => rfl
  · intro W base args ds ps hval0 hA0 _
    have hval : ∀ (j : Nat) t v, Try.f4.params[j]? = some t → args[j]? = some v → Value.okWide Try.prog W .any base t v := hval0
    have hA : DataW.TrodAll enc Try.prog W 0 (fun _ => true) true Try.f4.params.toList args.toList ds ps := hA0
    rw [Try.params4] at hA hval
    obtain ⟨v0, v1, d0, d1, p0, p1, rfl, rfl, rfl, h0, h1⟩ := trodAll_two hA
    obtain ⟨a, rfl, rfl, rfl, wa⟩ := open_int Try.underlying25 (hval 0 _ _ rfl rfl) h0
    obtain ⟨b, rfl, rfl, rfl, wb⟩ := open_int Try.underlying25 (hval 1 _ _ rfl rfl) h1
    exact walk a b (bounds_u16 wa) (bounds_u16 wb) W

theorem proved : Rows.BackoffNextSaid :=
  OpenClaim.holds_of_wide 4 Try.f4 rfl rfl rfl rfl rfl rfl rfl ⟨rfl, rfl, rfl, rfl, rfl⟩ rfl rfl rfl rfl rfl (by kernel_rfl) Try.func4 (by kernel_rfl)
    (of_decide_eq_true (by kernel_rfl)) (by unfold Func.isWrapper; first | (rw [if_pos (by decide +kernel)]; kernel_rfl) | (rw [if_neg (by decide +kernel)]; exact ⟨rfl, rfl⟩))
    (fun os started H enc _ => lifted os started H enc)
#print axioms proved
end Go.Proofs.Ytlcnahnondgofaa.backoffNext
