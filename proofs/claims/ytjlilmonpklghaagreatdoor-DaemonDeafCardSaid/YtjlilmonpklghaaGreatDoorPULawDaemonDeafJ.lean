/- Datagrams that aren't taken, nor a kiss, wherever they come, change nothing but counts. No condition. -/
import Derived.Test.YtjlilmonpklghaaGreatDoorPUbi
import Derived.Test.YtjlilmonpklghaaGreatDoorPUbj
import Derived.Test.YtjlilmonpklghaaGreatDoorPUam
import Derived.Lay
namespace Go.Proofs.YtjlilmonpklghaaGreatDoor.daemonDeaf
open Go.ChangeShapes Go.WideShapes Go.ChangeAt Go.RowKit Go.Proofs.YtjlilmonpklghaaGreatDoor
set_option linter.unusedVariables false
set_option linter.unusedSimpArgs false
theorem and_i {a b : Bool} (h : a = true) (k : b = true) : (a && b) = true := by rw [h, k]; rfl
set_option maxRecDepth 100000 in
set_option maxHeartbeats 40000000 in
theorem joined : joinedFacts Tryz.pinned.checked.prog 3 Tryz.f3 (OpenSpec.ofChange Rows.daemonDeafSpec).bare Rows.daemonDeafRow = true := by
  unfold joinedFacts
  repeat' (with_reducible refine and_i ?_ ?_)
  all_goals (as_aux_lemma => kernel_rfl)
theorem inst : (Tryz.f3).isInstance Tryz.pinned.checked.prog Rows.daemonDeafRow.origin Rows.daemonDeafRow.targs := of_decide_eq_true (by kernel_rfl)
theorem wrap : (Tryz.f3).isWrapper Tryz.pinned.checked.prog Rows.daemonDeafRow.wrapper Rows.daemonDeafRow.mainSum := by
  unfold Func.isWrapper
  first | (rw [if_pos (by decide +kernel)]; kernel_rfl) | (rw [if_neg (by decide +kernel)]; exact ⟨rfl, rfl⟩)
theorem fname : Tryz.pinned.checked.prog.funcNamed Rows.daemonDeafRow.func = some 3 := by kernel_rfl
end Go.Proofs.YtjlilmonpklghaaGreatDoor.daemonDeaf
