/- Lines that are done, in turn: plain Lean. -/
import Derived.Test.YthbaoocnnfnhnaaDoorLxU
namespace Go.Proofs.YthbaoocnnfnhnaaDoor
open Go.RowKit

theorem linesOf_app : ∀ (L M : List (List UInt8)) (n : Nat), linesOf n (L ++ M) = linesOf n L ++ linesOf (n + L.length) M := by
  intro L
  induction L with
  | nil => intro M n; simp [linesOf]
  | cons s L ih =>
    intro M n
    rw [List.cons_append, linesOf, linesOf, ih M (n + 1), List.append_assoc]
    simp only [List.length_cons]
    rw [show n + 1 + L.length = n + (L.length + 1) by omega]

/-- Lines of rows of numbers, all done. -/
def AllDone (R : Nat → List Int) (D : List (List UInt8)) : Prop := ∀ j, j < D.length → Done (D.getD j []) ((R j).map textOf)
theorem AllDone.snoc {R : Nat → List Int} {D : List (List UInt8)} (h : AllDone R D) {s : List UInt8} (hs : Done s ((R D.length).map textOf)) : AllDone R (D ++ [s]) := by
  intro j hj
  by_cases hl : j < D.length
  · have : (D ++ [s]).getD j [] = D.getD j [] := by simp [List.getD, List.getElem?_append_left hl]
    rw [this]; exact h j hl
  · obtain rfl : j = D.length := by simp at hj; omega
    have : (D ++ [s]).getD D.length [] = s := by simp [List.getD]
    rw [this]; exact hs
/-- How many lines with words there are, of the first i. -/
def cntW (D : List (List UInt8)) (i : Nat) : Nat := (linesOf 0 (D.take i)).length
theorem take_at {D : List (List UInt8)} {i : Nat} (hi : i < D.length) : D.take (i + 1) = D.take i ++ [D.getD i []] := by
  rw [List.take_add_one]
  simp [List.getD, hi]
theorem one_line {R : Nat → List Int} {D : List (List UInt8)} (h : AllDone R D) {i : Nat} (hi : i < D.length) : linesOf i [D.getD i []] = if R i = [] then [] else [(i + 1, (R i).map textOf)] := by
  have hd := h i hi
  rw [linesOf, linesOf, List.append_nil, hd.fields]
  by_cases hr : R i = []
  · rw [if_neg (by simp [hr]), if_pos hr]
  · rw [if_pos (by simpa using List.length_pos_iff.2 hr), if_neg hr]
theorem cnt_none {R : Nat → List Int} {D : List (List UInt8)} (h : AllDone R D) {i : Nat} (hi : i < D.length) (hr : R i = []) : cntW D (i + 1) = cntW D i := by
  unfold cntW
  have hl : (D.take i).length = i := by simp; omega
  rw [take_at hi, linesOf_app, hl, Nat.zero_add, one_line h hi, if_pos hr, List.append_nil]
theorem cnt_some {R : Nat → List Int} {D : List (List UInt8)} (h : AllDone R D) {i : Nat} (hi : i < D.length) (hr : R i ≠ []) : cntW D (i + 1) = cntW D i + 1 ∧ (linesOf 0 D)[cntW D i]? = some (i + 1, (R i).map textOf) := by
  have hl : (D.take i).length = i := by simp; omega
  refine ⟨?_, ?_⟩
  · unfold cntW
    rw [take_at hi, linesOf_app, hl, Nat.zero_add, one_line h hi, if_neg hr]
    simp
  · have hs : D = D.take i ++ D.getD i [] :: D.drop (i + 1) := by
      conv => lhs; rw [← List.take_append_drop i D]
      congr 1
      rw [← List.getElem_cons_drop hi]
      simp [List.getD, hi]
    have h1 : linesOf 0 D = linesOf 0 (D.take i) ++ (linesOf i [D.getD i []] ++ linesOf (i + 1) (D.drop (i + 1))) := by
      conv => lhs; rw [hs]
      rw [linesOf_app, hl, Nat.zero_add]
      congr 1
      have := linesOf_app [D.getD i []] (D.drop (i + 1)) i
      simpa using this
    rw [h1, one_line h hi, if_neg hr]
    unfold cntW
    rw [List.getElem?_append_right (Nat.le_refl _), Nat.sub_self]
    rfl
theorem cnt_all (D : List (List UInt8)) : cntW D D.length = (linesOf 0 D).length := by unfold cntW; rw [List.take_length]
theorem cnt_le (D : List (List UInt8)) : ∀ i, cntW D i ≤ i := by
  have key : ∀ (L : List (List UInt8)) (n : Nat), (linesOf n L).length ≤ L.length := by
    intro L
    induction L with
    | nil => intro n; simp [linesOf]
    | cons s L ih =>
      intro n
      rw [linesOf, List.length_append]
      have := ih (n + 1)
      split <;> simp <;> omega
  intro i
  have := key (D.take i) 0
  unfold cntW
  simp at this ⊢; omega
/-- The text of such lines. -/
theorem done_text {R : Nat → List Int} {D : List (List UInt8)} (h : AllDone R D) (hne : D ≠ []) : (∀ i, i < partsN 10 (nl D) → okLine (nl D) i = true) ∧ linesTo (nl D) (partsN 10 (nl D)) = linesOf 0 D := by
  have hm : ∀ s ∈ D, ∃ ws, Done s ws := by
    intro s hs
    obtain ⟨j, hj, rfl⟩ := List.getElem_of_mem hs
    have := h j hj
    exact ⟨_, by simpa [List.getD, hj] using this⟩
  exact ⟨ok_nl D hne (fun s hs => let ⟨_, hd⟩ := hm s hs; ⟨hd.no10, hd.ok⟩), lines_nl D hne (fun s hs => let ⟨_, hd⟩ := hm s hs; hd.no10)⟩
theorem done_text0 {R : Nat → List Int} {D : List (List UInt8)} (h : AllDone R D) : (∀ i, i < partsN 10 (nl D) → okLine (nl D) i = true) ∧ linesTo (nl D) (partsN 10 (nl D)) = linesOf 0 D := by
  by_cases hne : D = []
  · subst hne
    refine ⟨fun i hi => ?_, rfl⟩
    obtain rfl : i = 0 := by simp [nl, partsN] at hi; omega
    rfl
  · exact done_text h hne
/-- A new line begins. -/
theorem nl_begin (D : List (List UInt8)) (i : Nat) (hi : D.length = i) : (if i = 0 then nl D else nl D ++ [10]) = nl (D ++ [[]]) := by
  by_cases h0 : i = 0
  · rw [if_pos h0]
    obtain rfl : D = [] := List.length_eq_zero_iff.1 (by omega)
    rfl
  · rw [if_neg h0]
    have hne : D ≠ [] := by intro e; rw [e] at hi; simp at hi; omega
    obtain ⟨L, s, rfl⟩ : ∃ L s, D = L ++ [s] := ⟨D.dropLast, D.getLast hne, (List.dropLast_concat_getLast hne).symm⟩
    exact nl_new L s
end Go.Proofs.YthbaoocnnfnhnaaDoor
