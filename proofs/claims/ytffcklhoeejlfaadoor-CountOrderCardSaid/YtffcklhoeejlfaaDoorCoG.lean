/- A local array of thirteen numbers. -/
import Derived.Test.YtffcklhoeejlfaaDoorCoW
import Derived.Test.YtffcklhoeejlfaaDoorKitSl
namespace Go.Proofs.YtffcklhoeejlfaaDoor
open Go.RowKit

/-- Block b holds a local array of thirteen numbers. -/
def AO (w : World) (b : Nat) (c : List Int) : Prop :=
  w.heap[b]? = some (.cells (c.map (Value.int .i64)).toArray 26 (0, 0)) ∧ c.length = 13

theorem AO.heap {S : Nat → Prop} {w w' : World} {b : Nat} {c : List Int} (h : AO w b c) (hm : Mod S w w') (hb : ¬ S b) : AO w' b c := ⟨hm.heap h.1 hb, h.2⟩
theorem AO.cell {w : World} {b : Nat} {c : List Int} (h : AO w b c) (k : Nat) (hk : k < 13) : w.cell? ⟨b, k, none⟩ = some (.int .i64 (c.getD k 0)) := by
  refine cell_of_block h.1 k ?_
  have := h.2
  simp [List.getD, this, hk]
theorem AO.set {w : World} {b : Nat} {c : List Int} (h : AO w b c) (k : Nat) (x : Int) : AO (w.setCell ⟨b, k, none⟩ (.int .i64 x)) b (c.set k x) := by
  refine ⟨?_, by simp [h.2]⟩
  rw [heap_setCell_eq h.1]
  simp

/-- One count more keeps the bounds. -/
theorem bump_in {c : List Int} {n : Int} (hl : c.length = 13) (hc : ∀ k, 0 ≤ c.getD k 0 ∧ c.getD k 0 ≤ n) (i : Nat) (hi : i < 13) : ∀ k, 0 ≤ (c.set i (c.getD i 0 + 1)).getD k 0 ∧ (c.set i (c.getD i 0 + 1)).getD k 0 ≤ n + 1 := by
  intro k
  rw [at_set c hl i k hi]
  have := hc k
  have := hc i
  split <;> omega

end Go.Proofs.YtffcklhoeejlfaaDoor
