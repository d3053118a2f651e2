/- A text of one word. -/
import Derived.Test.YthbaoocnnfnhnaaDoorLxJ
import Derived.Lib.Repeat
namespace Go.Proofs.YthbaoocnnfnhnaaDoor
open Go.RowKit

theorem fieldsGo_word (l : List UInt8) (h : ∀ b ∈ l, Lib.isSp b = false) : ∀ cur, Lib.fieldsGo cur l = if cur ++ l = [] then [] else [cur ++ l] := by
  induction l with
  | nil => intro cur; rw [go_end]; simp
  | cons b l ih =>
    intro cur
    rw [go_on (h b (by simp)), ih (fun x hx => h x (by simp [hx])), List.append_assoc]
    rfl
theorem fields_word (l : List UInt8) (h : ∀ b ∈ l, Lib.isSp b = false) (h0 : l ≠ []) : Lib.fields l = [l] := by
  unfold Lib.fields
  rw [fieldsGo_word l h]
  simp [h0]

/-- Of a text without a byte 10 there is one line. -/
theorem one_part {l : List UInt8} (h : (10 : UInt8) ∉ l) : partsN 10 l = 1 ∧ partF 10 l 0 = l := ⟨by simp [partsN, List.count_eq_zero.mpr h], upTo_all h⟩
theorem linesTo_one {l : List UInt8} (h : (10 : UInt8) ∉ l) : linesTo l 1 = if 0 < (Lib.fields (upTo l 35)).length then [(1, Lib.fields (upTo l 35))] else [] := by
  show [] ++ (if 0 < (wordsOf l 0).length then [(0 + 1, wordsOf l 0)] else []) = _
  unfold wordsOf bare
  rw [(one_part h).2]
  simp
theorem okLine_one {l : List UInt8} (h : (10 : UInt8) ∉ l) : okLine l 0 = (upTo l 35).all okB := by unfold okLine bare; rw [(one_part h).2]

def longL (n : Nat) : List UInt8 := List.replicate n 97
theorem long_mem {n : Nat} {b : UInt8} (h : b ∈ longL n) : b = 97 := (List.mem_replicate.mp h).2
theorem long_bare (n : Nat) : upTo (longL n) 35 = longL n := upTo_all fun h => by have := long_mem h; revert this; decide
theorem long_ten (n : Nat) : (10 : UInt8) ∉ longL n := fun h => by have := long_mem h; revert this; decide
theorem long_ok (n : Nat) : okLine (longL n) 0 = true := by
  rw [okLine_one (long_ten n), long_bare, List.all_eq_true]
  intro b hb
  rw [long_mem hb]; rfl
theorem long_lines (n : Nat) (h : 0 < n) : linesTo (longL n) 1 = [(1, [longL n])] := by
  rw [linesTo_one (long_ten n), long_bare, fields_word _ (fun b hb => by rw [long_mem hb]; rfl) (by simp [longL]; omega)]
  simp
theorem long_len (n : Nat) : (longL n).length = n := by simp [longL]
theorem long_rep (n : Nat) : Lib.repeatL [97] n = longL n := by
  induction n with
  | zero => rfl
  | succ n ih => rw [Lib.repeatL, ih]; rfl
end Go.Proofs.YthbaoocnnfnhnaaDoor
