/- A clock that is set by so much from the beginning on, and servers' stamps that are set by as much, do the same: what is sent, and when. No condition. -/
import Derived.Test.YtjlilmonpklghaaGreatDoorPULawDaemonApartL
import Derived.Test.YtjlilmonpklghaaGreatDoorPULawDaemonApartJ
import Derived.Test.YtjlilmonpklghaaGreatDoorPUbi
import Derived.Test.YtjlilmonpklghaaGreatDoorPUbj
import Derived.Test.YtjlilmonpklghaaGreatDoorPUam
import Derived.Lay
namespace Go.Proofs.YtjlilmonpklghaaGreatDoor.daemonApart
open Go.ChangeShapes Go.WideShapes Go.ChangeAt Go.RowKit Go.Proofs.YtjlilmonpklghaaGreatDoor
set_option linter.unusedVariables false
set_option linter.unusedSimpArgs false
theorem said : Rows.DaemonApartSaid :=
  OpenClaim.holds_of_cond 4 Tryz.f4 rfl rfl rfl rfl rfl rfl rfl ⟨rfl, rfl, rfl, rfl, rfl⟩ rfl rfl rfl rfl rfl fname Tryz.func4 joined inst wrap
    (fun os started H enc _ F => by rw [OpenClaim.pre_eq_preRow]; exact lifted os started H enc F)

theorem plain (f : FuncId) (fn : Func) (hf : Tryz.pinned.checked.prog.funcNamed "chronobate/chronobatelaw17.DaemonApart" = some f) (hfn : Tryz.pinned.checked.prog.funcs[f]? = some fn) :
    true = Tryz.pinned.checked.prog.looks [] ∧ ∀ (j : Nat) t, fn.params[j]? = some t → Tryz.pinned.checked.prog.wantsStandIn t = false := by
  obtain rfl : f = 4 := Option.some.inj ((show Tryz.prog.funcNamed "chronobate/chronobatelaw17.DaemonApart" = some 4 by as_aux_lemma => kernel_rfl).symm.trans hf) |>.symm
  obtain rfl : fn = Tryz.f4 := (Option.some.inj (Tryz.func4.symm.trans hfn)).symm
  refine ⟨(by as_aux_lemma => kernel_rfl), fun j t ht => ?_⟩
  have hall : (Tryz.f4.params.toList.all fun t => !(Tryz.prog.wantsStandIn t)) = true := by as_aux_lemma => kernel_rfl
  have := List.all_eq_true.1 hall t (Array.mem_toList_iff.2 (Array.mem_of_getElem? ht))
  have h2 : Tryz.prog.wantsStandIn t = false := by simpa using this
  exact h2

theorem proved : Rows.DaemonApartCardSaid :=
  Claim7.holds_tied_plain_at .later [] _ _ _ _ said (fun _ h => (by cases h)) (by as_aux_lemma => kernel_rfl) (fun _ h => by cases h) daemonApart_row_tie rfl ⟨rfl, rfl⟩ (by as_aux_lemma => kernel_rfl) rfl plain (by as_aux_lemma => kernel_rfl)
#print axioms proved
end Go.Proofs.YtjlilmonpklghaaGreatDoor.daemonApart
