/- All that is sent are queries to servers of the config, by ticks alone, with the last draw that wasn't 0 as cookie, at least the least number of seconds apart for one server, and none to one that sent a kiss. No condition. -/
import Derived.Test.YtpjfiplejhbdfaaGreatDoorPUbh
import Derived.Test.YtpjfiplejhbdfaaGreatDoorPUbi
import Derived.Test.YtpjfiplejhbdfaaGreatDoorPUam
import Derived.Lay
namespace Go.Proofs.YtpjfiplejhbdfaaGreatDoor.daemonSends
open Go.ChangeShapes Go.WideShapes Go.ChangeAt Go.RowKit Go.Proofs.YtpjfiplejhbdfaaGreatDoor
set_option linter.unusedVariables false
set_option linter.unusedSimpArgs false
theorem and_i {a b : Bool} (h : a = true) (k : b = true) : (a && b) = true := by rw [h, k]; rfl
set_option maxRecDepth 100000 in
set_option maxHeartbeats 40000000 in
theorem joined : joinedFacts Tryz.pinned.checked.prog 3 Tryz.f3 (OpenSpec.ofChange Rows.daemonSendsSpec).bare Rows.daemonSendsRow = true := by
  unfold joinedFacts
  repeat' (with_reducible refine and_i ?_ ?_)
  all_goals (as_aux_lemma => kernel_rfl)
theorem inst : (Tryz.f3).isInstance Tryz.pinned.checked.prog Rows.daemonSendsRow.origin Rows.daemonSendsRow.targs := of_decide_eq_true (by kernel_rfl)
theorem wrap : (Tryz.f3).isWrapper Tryz.pinned.checked.prog Rows.daemonSendsRow.wrapper Rows.daemonSendsRow.mainSum := by
  unfold Func.isWrapper
  first | (rw [if_pos (by decide +kernel)]; kernel_rfl) | (rw [if_neg (by decide +kernel)]; exact ⟨rfl, rfl⟩)
theorem fname : Tryz.pinned.checked.prog.funcNamed Rows.daemonSendsRow.func = some 3 := by kernel_rfl
end Go.Proofs.YtpjfiplejhbdfaaGreatDoor.daemonSends
