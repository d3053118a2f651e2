/- A clock that is set by so much from the beginning on, and servers' stamps that are set by as much, do the same: what is sent, and when. No condition. -/
import Derived.Test.YtjlilmonpklghaaGreatDoorPUbi
import Derived.Test.YtjlilmonpklghaaGreatDoorPUbj
import Derived.Test.YtjlilmonpklghaaGreatDoorPUam
import Derived.Lay
namespace Go.Proofs.YtjlilmonpklghaaGreatDoor.daemonApart
open Go.ChangeShapes Go.WideShapes Go.ChangeAt Go.RowKit Go.Proofs.YtjlilmonpklghaaGreatDoor
set_option linter.unusedVariables false
set_option linter.unusedSimpArgs false
theorem and_i {a b : Bool} (h : a = true) (k : b = true) : (a && b) = true := by rw [h, k]; rfl
set_option maxRecDepth 100000 in
set_option maxHeartbeats 40000000 in
theorem joined : joinedFacts Tryz.pinned.checked.prog 4 Tryz.f4 (OpenSpec.ofChange Rows.daemonApartSpec).bare Rows.daemonApartRow = true := by
  unfold joinedFacts
  repeat' (with_reducible refine and_i ?_ ?_)
  all_goals (as_aux_lemma => kernel_rfl)
theorem inst : (Tryz.f4).isInstance Tryz.pinned.checked.prog Rows.daemonApartRow.origin Rows.daemonApartRow.targs := of_decide_eq_true (by kernel_rfl)
theorem wrap : (Tryz.f4).isWrapper Tryz.pinned.checked.prog Rows.daemonApartRow.wrapper Rows.daemonApartRow.mainSum := by
  unfold Func.isWrapper
  first | (rw [if_pos (by decide +kernel)]; kernel_rfl) | (rw [if_neg (by decide +kernel)]; exact ⟨rfl, rfl⟩)
theorem fname : Tryz.pinned.checked.prog.funcNamed Rows.daemonApartRow.func = some 4 := by kernel_rfl
end Go.Proofs.YtjlilmonpklghaaGreatDoor.daemonApart
