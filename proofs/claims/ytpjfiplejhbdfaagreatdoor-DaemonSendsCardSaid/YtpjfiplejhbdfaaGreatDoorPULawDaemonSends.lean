/- All that is sent are queries to servers of the config, by ticks alone, with the last draw that wasn't 0 as cookie, at least the least number of seconds apart for one server, and none to one that sent a kiss. No condition. -/
import Derived.Test.YtpjfiplejhbdfaaGreatDoorPULawDaemonSendsL
import Derived.Test.YtpjfiplejhbdfaaGreatDoorPULawDaemonSendsJ
import Derived.Test.YtpjfiplejhbdfaaGreatDoorPUbh
import Derived.Test.YtpjfiplejhbdfaaGreatDoorPUbi
import Derived.Test.YtpjfiplejhbdfaaGreatDoorPUam
import Derived.Lay
namespace Go.Proofs.YtpjfiplejhbdfaaGreatDoor.daemonSends
open Go.ChangeShapes Go.WideShapes Go.ChangeAt Go.RowKit Go.Proofs.YtpjfiplejhbdfaaGreatDoor
set_option linter.unusedVariables false
set_option linter.unusedSimpArgs false
theorem said : Rows.DaemonSendsSaid :=
  OpenClaim.holds_of_cond 3 Tryz.f3 rfl rfl rfl rfl rfl rfl rfl ⟨rfl, rfl, rfl, rfl, rfl⟩ rfl rfl rfl rfl rfl fname Tryz.func3 joined inst wrap
    (fun os started H enc _ F => by rw [OpenClaim.pre_eq_preRow]; exact lifted os started H enc F)

theorem plain (f : FuncId) (fn : Func) (hf : Tryz.pinned.checked.prog.funcNamed "chronobate/chronobatelaw17.DaemonSends" = some f) (hfn : Tryz.pinned.checked.prog.funcs[f]? = some fn) :
    true = Tryz.pinned.checked.prog.looks [] ∧ ∀ (j : Nat) t, fn.params[j]? = some t → Tryz.pinned.checked.prog.wantsStandIn t = false := by
  obtain rfl : f = 3 := Option.some.inj ((show Tryz.prog.funcNamed "chronobate/chronobatelaw17.DaemonSends" = some 3 by as_aux_lemma => kernel_rfl).symm.trans hf) |>.symm
  obtain rfl : fn = Tryz.f3 := (Option.some.inj (Tryz.func3.symm.trans hfn)).symm
  refine ⟨(by as_aux_lemma => kernel_rfl), fun j t ht => ?_⟩
  have hall : (Tryz.f3.params.toList.all fun t => !(Tryz.prog.wantsStandIn t)) = true := by as_aux_lemma => kernel_rfl
  have := List.all_eq_true.1 hall t (Array.mem_toList_iff.2 (Array.mem_of_getElem? ht))
  have h2 : Tryz.prog.wantsStandIn t = false := by simpa using this
  exact h2

theorem proved : Rows.DaemonSendsCardSaid :=
  Claim7.holds_tied_plain_at .later [] _ _ _ _ said (fun _ h => (by cases h)) (by as_aux_lemma => kernel_rfl) (fun _ h => by cases h) daemonSends_row_tie rfl ⟨rfl, rfl⟩ (by as_aux_lemma => kernel_rfl) rfl plain (by as_aux_lemma => kernel_rfl)
#print axioms proved
end Go.Proofs.YtpjfiplejhbdfaaGreatDoor.daemonSends
