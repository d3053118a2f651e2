/- The lines of a text: plain Lean. -/
import Derived.Test.YthbaoocnnfnhnaaDoorLxC
namespace Go.Proofs.YthbaoocnnfnhnaaDoor
open Go.RowKit

/-- What is left of a text behind its first k bytes c. -/
def restF (c : UInt8) (l : List UInt8) : Nat → List UInt8
  | 0 => l
  | k + 1 => (restF c l k).drop ((upTo (restF c l k) c).length + 1)
def partF (c : UInt8) (l : List UInt8) (k : Nat) : List UInt8 := upTo (restF c l k) c
def partsN (c : UInt8) (l : List UInt8) : Nat := l.count c + 1

theorem drop_count (l : List UInt8) (c : UInt8) (h : c ∈ l) : (l.drop ((upTo l c).length + 1)).count c + 1 = l.count c := by
  induction l with
  | nil => cases h
  | cons b l ih =>
    unfold upTo
    rw [List.takeWhile_cons]
    by_cases hb : b = c
    · subst hb; simp
    · have h1 : (b != c) = true := by simpa using hb
      rw [if_pos h1]
      have hm : c ∈ l := by
        rcases List.mem_cons.mp h with e | e
        · exact absurd e.symm hb
        · exact e
      have := ih hm
      simp only [List.length_cons, List.drop_succ_cons]
      rw [List.count_cons_of_ne hb]
      exact this

theorem rest_count (c : UInt8) (l : List UInt8) (k : Nat) (hk : k ≤ l.count c) : (restF c l k).count c + k = l.count c := by
  induction k with
  | zero => rfl
  | succ k ih =>
    have h := ih (by omega)
    have hm : c ∈ restF c l k := List.count_pos_iff.mp (by omega)
    have := drop_count (restF c l k) c hm
    show ((restF c l k).drop _).count c + (k + 1) = _
    omega

theorem rest_len (c : UInt8) (l : List UInt8) (k : Nat) : (restF c l k).length ≤ l.length := by
  induction k with
  | zero => exact Nat.le_refl _
  | succ k ih => simp only [restF, List.length_drop]; omega

theorem parts_of (c : UInt8) (l : List UInt8) (hl : l.length ≤ 9223372036854775807) : Parts c (partsN c l) (restF c l) (partF c l) where
  pos := by simp [partsN]
  len k _ := Nat.le_trans (rest_len c l k) hl
  mid k hk := by
    have h := rest_count c l k (by simp only [partsN] at hk; omega)
    have hm : c ∈ restF c l k := List.count_pos_iff.mp (by simp only [partsN] at hk; omega)
    refine ⟨?_, upTo_lt hm, upTo_take _ _, rfl⟩
    have := index_upTo (restF c l k) c
    rwa [if_pos hm] at this
  last := by
    have h := rest_count c l (l.count c) (Nat.le_refl _)
    have hn : c ∉ restF c l (l.count c) := fun hm => by have := List.count_pos_iff.mpr hm; omega
    have h2 := index_upTo (restF c l (l.count c)) c
    rw [if_neg hn] at h2
    simp only [partsN, Nat.add_sub_cancel]
    exact ⟨h2, upTo_all hn⟩

/-- A line's own part, its words. -/
def bare (l : List UInt8) (k : Nat) : List UInt8 := upTo (partF 10 l k) 35
def wordsOf (l : List UInt8) (k : Nat) : List (List UInt8) := Lib.fields (bare l k)
def okLine (l : List UInt8) (k : Nat) : Bool := (bare l k).all okB

/-- The lines that have words, of the first k. -/
def linesTo (l : List UInt8) : Nat → List (Nat × List (List UInt8))
  | 0 => []
  | k + 1 => linesTo l k ++ if 0 < (wordsOf l k).length then [(k + 1, wordsOf l k)] else []

theorem linesTo_len (l : List UInt8) (k : Nat) : (linesTo l k).length ≤ k := by
  induction k with
  | zero => exact Nat.le_refl _
  | succ k ih => unfold linesTo; split <;> simp <;> omega

end Go.Proofs.YthbaoocnnfnhnaaDoor
