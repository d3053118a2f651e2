/- A remark behind a line; words' lengths. -/
import Derived.Test.YthbaoocnnfnhnaaDoorLxL
namespace Go.Proofs.YthbaoocnnfnhnaaDoor
open Go.RowKit

theorem fieldsGo_word_len (l : List UInt8) : ∀ cur, ∀ x ∈ Lib.fieldsGo cur l, x.length ≤ cur.length + l.length := by
  induction l with
  | nil =>
    intro cur x hx
    rw [go_end] at hx
    split at hx
    · cases hx
    · simp at hx; subst hx; omega
  | cons b l ih =>
    intro cur x hx
    cases hb : Lib.isSp b with
    | true =>
      rw [go_sp hb] at hx
      rcases List.mem_append.mp hx with h | h
      · split at h
        · cases h
        · simp at h; subst h; omega
      · have := ih [] x h
        simp at this ⊢
        omega
    | false =>
      rw [go_on hb] at hx
      have := ih _ x hx
      simp at this ⊢
      omega
theorem fields_word_len (l : List UInt8) : ∀ x ∈ Lib.fields l, x.length ≤ l.length := fun x hx => by
  have := fieldsGo_word_len l [] x hx
  simpa using this
theorem wordsOf_word_len (l : List UInt8) (k : Nat) : ∀ x ∈ wordsOf l k, x.length ≤ l.length := fun x hx =>
  Nat.le_trans (fields_word_len _ x hx) (Nat.le_trans (upTo_le _ _) (Nat.le_trans (upTo_le _ _) (rest_len 10 l k)))
theorem linesTo_word_len (l : List UInt8) (k : Nat) : ∀ x ∈ linesTo l k, ∀ y ∈ x.2, y.length ≤ l.length := by
  induction k with
  | zero => intro x hx; cases hx
  | succ k ih =>
    intro x hx
    unfold linesTo at hx
    rcases List.mem_append.mp hx with h | h
    · exact ih x h
    · split at h
      · simp at h; subst h; exact wordsOf_word_len l k
      · cases h
theorem linesTo_pos (l : List UInt8) (k : Nat) : ∀ x ∈ linesTo l k, 0 < x.2.length := by
  induction k with
  | zero => intro x hx; cases hx
  | succ k ih =>
    intro x hx
    unfold linesTo at hx
    rcases List.mem_append.mp hx with h | h
    · exact ih x h
    · split at h
      · rename_i h0; simp at h; subst h; exact h0
      · cases h

theorem remark_bare {l r : List UInt8} : upTo (l ++ 35 :: r) 35 = upTo l 35 := by
  induction l with
  | nil => simp [upTo]
  | cons b l ih =>
    unfold upTo at ih ⊢
    rw [List.cons_append, List.takeWhile_cons, List.takeWhile_cons, ih]
theorem remark_ten {l r : List UInt8} (hl : (10 : UInt8) ∉ l) (hr : (10 : UInt8) ∉ r) : (10 : UInt8) ∉ l ++ 35 :: r := by
  simp [hl, hr]
theorem remark_lines {l r : List UInt8} (hl : (10 : UInt8) ∉ l) (hr : (10 : UInt8) ∉ r) : linesTo (l ++ 35 :: r) 1 = linesTo l 1 := by
  rw [linesTo_one hl, linesTo_one (remark_ten hl hr), remark_bare]
theorem remark_ok {l r : List UInt8} (hl : (10 : UInt8) ∉ l) (hr : (10 : UInt8) ∉ r) : okLine (l ++ 35 :: r) 0 = okLine l 0 := by
  rw [okLine_one hl, okLine_one (remark_ten hl hr), remark_bare]
theorem index_none {l : List UInt8} {c : UInt8} (h : c ∉ l) : decide (0 ≤ Lib.indexByte l c) = false := by
  rw [index_upTo, if_neg h]; rfl
theorem index_some {l : List UInt8} {c : UInt8} (h : c ∈ l) : decide (0 ≤ Lib.indexByte l c) = true := by
  rw [index_upTo, if_pos h]; simp

/-- How lex.Lines ends at a text of one line. -/
theorem lines_one (l : List UInt8) (hn : (10 : UInt8) ∉ l) (hl : l.length ≤ 65536) (w : World) (hL : LaidS w) :
    Calls Tryd.prog 11 #[.string (bs l)] w fun e w' => (if okLine l 0 then ∃ v, e = .returned (.tuple #[v, .int .i64 0, .int .i64 0]) ∧ LinesAt 36 (w.heap.size + 10) w' v (linesTo l 1) else e = .returned (.tuple #[.slice none 0 0, .int .i64 1, .int .i64 6])) ∧ Mod NoB w w' := by
  refine (lines_walk l hl w (fun W hm => hL.mod hm)).mono ?_
  rintro e w' ⟨(⟨j, a1, a2, _, h⟩ | ⟨a1, h⟩), hm⟩
  · rw [(one_part hn).1] at a1
    obtain rfl : j = 0 := by omega
    rw [if_neg (by simp [a2])]
    exact ⟨h, hm⟩
  · rw [(one_part hn).1] at a1 h
    rw [if_pos (a1 0 (by omega))]
    exact ⟨h, hm⟩
end Go.Proofs.YthbaoocnnfnhnaaDoor
