/- Counts of one reason alone: their text, their sum. -/
import Derived.Test.YtffcklhoeejlfaaDoorCoG
import Derived.Deep.CutRange
import Derived.Deep.CutBlock
namespace Go.Proofs.YtffcklhoeejlfaaDoor
open Go.RowKit

theorem one_at (k : Nat) (hk : k < 13) (n : Int) (q : Nat) : (zero13.set k n).getD q 0 = if k = q then n else 0 := by
  rw [at_set zero13 zero13_len k q hk, zero13_at]

theorem ents_one (k : Nat) (hk : k < 13) (n : Int) (j : Nat) : ents (zero13.set k n) j = if k < j ∧ 0 < n then [nameL.getD k [] ++ [32] ++ Lib.itoa n] else [] := by
  induction j with
  | zero => simp [ents]
  | succ j ih =>
    rw [ents_succ, ih, one_at k hk]
    rcases Nat.lt_trichotomy k j with hl | hl | hl
    · have h1 : k ≠ j := by omega
      have h2 : k < j + 1 := by omega
      by_cases h0 : 0 < n <;> simp [hl, h0, h1, h2]
    · subst hl
      by_cases h0 : 0 < n <;> simp [h0]
    · have h1 : k ≠ j := by omega
      have h2 : ¬ k < j + 1 := by omega
      have h3 : ¬ k < j := by omega
      simp [h1, h2, h3]

theorem sum_one (k : Nat) (hk : k < 13) (n : Int) (j : Nat) : sumTo (zero13.set k n) j = if k < j ∧ k ≠ 0 then n else 0 := by
  induction j with
  | zero => simp [sumTo]
  | succ j ih =>
    rw [sumTo, ih, one_at k hk]
    by_cases hj0 : j = 0
    · subst hj0
      rw [if_pos rfl, if_neg (by omega), if_neg (by omega)]; rfl
    · rw [if_neg hj0]
      by_cases hkj : k = j
      · subst hkj; rw [if_neg (by omega), if_pos rfl, if_pos ⟨by omega, hj0⟩]; omega
      · rw [if_neg hkj]
        by_cases hl : k < j ∧ k ≠ 0
        · rw [if_pos hl, if_pos ⟨by omega, hl.2⟩]; omega
        · rw [if_neg hl, if_neg (by omega)]; rfl

end Go.Proofs.YtffcklhoeejlfaaDoor
