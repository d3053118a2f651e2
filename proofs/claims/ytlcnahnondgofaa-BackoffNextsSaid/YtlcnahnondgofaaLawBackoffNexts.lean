/- Of any two numbers backoff.Next answers as the document's reference does, and the document's example holds. No condition. -/
import Derived.Test.YtlcnahnondgofaaBkD
namespace Go.Proofs.Ytlcnahnondgofaa.backoffNexts
open Go.ChangeShapes Go.WideShapes Go.ChangeAt Go.RowKit Go.Proofs.Ytlcnahnondgofaa

theorem own : ownKnob Try.prog.godebug = none := by kernel_rfl

theorem walk (a b : Int) (ha : I64 a) (hb : I64 b) (w : World) :
    Calls Try.prog 3 #[.int .i64 a, .int .i64 b] w fun e w' => e = .returned (.bool true) ∧ Mod NoB w w' := by
  go_enter Try.func3, Try.ntmps3
  go_wp2_with fail
  refine (alive_any _).mono ?_
  rintro e w1 ⟨rfl, hm⟩
  go_wp2_with fail
  refine (next_any _ _ ha hb _).mono ?_
  rintro e w' ⟨rfl, rfl⟩
  go_wp2_with fail
  refine (rnext_any _ _ ha hb _).mono ?_
  rintro e w' ⟨rfl, rfl⟩
  go_wp2
  go_ret
  exact ⟨by simp, hm⟩

set_option maxRecDepth 100000 in
theorem lifted (os : Os) (started : os.Started) (H : Type) (enc : TypeId × Value → H) :
    ReturnsInHanded {} Try.checked os 3 .any (Rows.backoffNextsSpec.pre6 enc Try.prog Try.f3 Rows.backoffNextsRow.domain false) (Rows.backoffNextsSpec.post enc Try.prog Try.f3 false true false false) := by
  refine law_lifted (C := Try.checked) (bt := 4) own started (by kernel_rfl) Try.func3 (by kernel_rfl) (by kernel_rfl) (by kernel_rfl) Try.underlying4 rfl ?_
    (ChangeSpec.witness6 (enc := enc) (C := Try.checked) false ⟨#[], #[.int .i64 0, .int .i64 0], []⟩ 8 (by kernel_rfl) (by kernel_rfl) (by kernel_rfl) (by kernel_rfl)) ?_
  · intro ds h
    match ds, h with
    | [d0, d1], _ => rfl
  · intro W base args ds ps hval0 hA0 _
    have hval : ∀ (j : Nat) t v, Try.f3.params[j]? = some t → args[j]? = some v → Value.okWide Try.prog W .any base t v := hval0
    have hA : DataW.TrodAll enc Try.prog W 0 (fun _ => true) true Try.f3.params.toList args.toList ds ps := hA0
    rw [Try.params3] at hA hval
    obtain ⟨v0, v1, d0, d1, p0, p1, rfl, rfl, rfl, h0, h1⟩ := trodAll_two hA
    obtain ⟨a, rfl, rfl, rfl, wa⟩ := open_int Try.underlying3 (hval 0 _ _ rfl rfl) h0
    obtain ⟨b, rfl, rfl, rfl, wb⟩ := open_int Try.underlying3 (hval 1 _ _ rfl rfl) h1
    exact walk a b (i64_of_wf wa) (i64_of_wf wb) W

theorem proved : Rows.BackoffNextsSaid :=
  OpenClaim.holds_of_wide 3 Try.f3 rfl rfl rfl rfl rfl rfl rfl ⟨rfl, rfl, rfl, rfl, rfl⟩ rfl rfl rfl rfl rfl (by kernel_rfl) Try.func3 (by kernel_rfl)
    (of_decide_eq_true (by kernel_rfl)) (by unfold Func.isWrapper; first | (rw [if_pos (by decide +kernel)]; kernel_rfl) | (rw [if_neg (by decide +kernel)]; exact ⟨rfl, rfl⟩))
    (fun os started H enc _ => lifted os started H enc)
#print axioms proved
end Go.Proofs.Ytlcnahnondgofaa.backoffNexts
