/- Two texts, with a byte 10 between: their lines. -/
import Derived.Test.YthbaoocnnfnhnaaDoorLxM
namespace Go.Proofs.YthbaoocnnfnhnaaDoor
open Go.RowKit

theorem restF_add (c : UInt8) (l : List UInt8) (m : Nat) : ∀ k, restF c l (m + k) = restF c (restF c l m) k := by
  intro k
  induction k with
  | zero => rfl
  | succ k ih =>
    show (restF c l (m + k)).drop ((upTo (restF c l (m + k)) c).length + 1) = (restF c (restF c l m) k).drop _
    rw [ih]
theorem upTo_app {a b : List UInt8} : upTo (a ++ 10 :: b) 10 = upTo a 10 := by
  induction a with
  | nil => simp [upTo]
  | cons x a ih =>
    unfold upTo at ih ⊢
    rw [List.cons_append, List.takeWhile_cons, List.takeWhile_cons, ih]
theorem rest_app {a b : List UInt8} : ∀ k, k ≤ a.count 10 → restF 10 (a ++ 10 :: b) k = restF 10 a k ++ 10 :: b := by
  intro k
  induction k with
  | zero => intro _; rfl
  | succ k ih =>
    intro hk
    have h := rest_count 10 a k (by omega)
    have hm : (10 : UInt8) ∈ restF 10 a k := List.count_pos_iff.mp (by omega)
    have hl := upTo_lt hm
    show (restF 10 (a ++ 10 :: b) k).drop ((upTo (restF 10 (a ++ 10 :: b) k) 10).length + 1) = (restF 10 a k).drop ((upTo (restF 10 a k) 10).length + 1) ++ 10 :: b
    rw [ih (by omega), upTo_app, List.drop_append_of_le_length (by omega)]
theorem rest_join {a b : List UInt8} : restF 10 (a ++ 10 :: b) (partsN 10 a) = b := by
  have h := rest_count 10 a (a.count 10) (Nat.le_refl _)
  have hn : (10 : UInt8) ∉ restF 10 a (a.count 10) := fun hm => by have := List.count_pos_iff.mpr hm; omega
  show (restF 10 (a ++ 10 :: b) (a.count 10)).drop ((upTo (restF 10 (a ++ 10 :: b) (a.count 10)) 10).length + 1) = b
  rw [rest_app _ (Nat.le_refl _), upTo_app, upTo_all hn]
  simp
theorem part_low {a b : List UInt8} {k : Nat} (hk : k < partsN 10 a) : partF 10 (a ++ 10 :: b) k = partF 10 a k := by
  unfold partF
  rw [rest_app k (by simp only [partsN] at hk; omega), upTo_app]
theorem part_high {a b : List UInt8} (k : Nat) : partF 10 (a ++ 10 :: b) (partsN 10 a + k) = partF 10 b k := by
  unfold partF
  rw [restF_add, rest_join]
theorem parts_join {a b : List UInt8} : partsN 10 (a ++ 10 :: b) = partsN 10 a + partsN 10 b := by
  simp [partsN, List.count_append]; omega
theorem lines_low {a b : List UInt8} : ∀ k, k ≤ partsN 10 a → linesTo (a ++ 10 :: b) k = linesTo a k := by
  intro k
  induction k with
  | zero => intro _; rfl
  | succ k ih =>
    intro hk
    have hw : wordsOf (a ++ 10 :: b) k = wordsOf a k := by unfold wordsOf bare; rw [part_low (by omega)]
    show linesTo (a ++ 10 :: b) k ++ _ = linesTo a k ++ _
    rw [ih (by omega), hw]
def behind (n : Nat) (L : List (Nat × List (List UInt8))) : List (Nat × List (List UInt8)) := L.map fun x => (x.1 + n, x.2)
theorem lines_high {a b : List UInt8} : ∀ k, linesTo (a ++ 10 :: b) (partsN 10 a + k) = linesTo a (partsN 10 a) ++ behind (partsN 10 a) (linesTo b k) := by
  intro k
  induction k with
  | zero => simp [lines_low _ (Nat.le_refl _), linesTo, behind]
  | succ k ih =>
    have hw : wordsOf (a ++ 10 :: b) (partsN 10 a + k) = wordsOf b k := by unfold wordsOf bare; rw [part_high]
    show linesTo (a ++ 10 :: b) (partsN 10 a + k) ++ (if 0 < (wordsOf (a ++ 10 :: b) (partsN 10 a + k)).length then [(partsN 10 a + k + 1, wordsOf (a ++ 10 :: b) (partsN 10 a + k))] else []) = _ ++ behind _ (linesTo b k ++ (if 0 < (wordsOf b k).length then [(k + 1, wordsOf b k)] else []))
    rw [ih, hw, behind, behind, List.map_append, List.append_assoc]
    congr 2
    split
    · simp; omega
    · rfl
theorem lines_join {a b : List UInt8} : linesTo (a ++ 10 :: b) (partsN 10 (a ++ 10 :: b)) = linesTo a (partsN 10 a) ++ behind (partsN 10 a) (linesTo b (partsN 10 b)) := by
  rw [parts_join, lines_high]
theorem ok_join {a b : List UInt8} (ha : ∀ i, i < partsN 10 a → okLine a i = true) (hb : ∀ i, i < partsN 10 b → okLine b i = true) : ∀ i, i < partsN 10 (a ++ 10 :: b) → okLine (a ++ 10 :: b) i = true := by
  intro i hi
  rw [parts_join] at hi
  by_cases h : i < partsN 10 a
  · have : okLine (a ++ 10 :: b) i = okLine a i := by unfold okLine bare; rw [part_low h]
    rw [this]; exact ha i h
  · obtain ⟨k, rfl⟩ : ∃ k, i = partsN 10 a + k := ⟨i - partsN 10 a, by omega⟩
    have : okLine (a ++ 10 :: b) (partsN 10 a + k) = okLine b k := by unfold okLine bare; rw [part_high]
    rw [this]; exact hb k (by omega)
theorem countByte_eq (l : List UInt8) (c : UInt8) : Lib.countByte l c = l.count c := rfl
theorem linesTo_num (l : List UInt8) (k : Nat) : ∀ x ∈ linesTo l k, x.1 ≤ k := by
  induction k with
  | zero => intro x hx; cases hx
  | succ k ih =>
    intro x hx
    unfold linesTo at hx
    rcases List.mem_append.mp hx with h | h
    · have := ih x h; omega
    · split at h
      · simp at h; subst h; exact Nat.le_refl _
      · cases h
end Go.Proofs.YthbaoocnnfnhnaaDoor
