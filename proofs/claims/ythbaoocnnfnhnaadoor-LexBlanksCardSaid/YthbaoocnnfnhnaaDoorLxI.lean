/- Rows of lines: their cells. -/
import Derived.Test.YthbaoocnnfnhnaaDoorLxH
namespace Go.Proofs.YthbaoocnnfnhnaaDoor
open Go.RowKit

theorem pairs_at {α : Type} (f g : α → Value) (E : List α) : ∀ j, (E.flatMap fun x => [f x, g x])[2 * j]? = E[j]?.map f ∧ (E.flatMap fun x => [f x, g x])[2 * j + 1]? = E[j]?.map g := by
  induction E with
  | nil => intro j; simp
  | cons x E ih =>
    intro j
    cases j with
    | zero => simp
    | succ j =>
      have := ih j
      rw [show 2 * (j + 1) = 2 * j + 1 + 1 by omega]
      simpa using this

/-- A row of lines: where it lies, what its cells are. -/
theorem LinesAt.open {T base : Nat} {W : World} {v : Value} {L : List (Nat × List (List UInt8))} (h : LinesAt T base W v L) : ∃ p cap, v = .slice p L.length cap ∧
    ∀ j x, L[j]? = some x → ∃ g u c, p = some ⟨g, 0, none⟩ ∧ W.cell? ⟨g, j * 2, none⟩ = some (.int .i64 x.1) ∧ W.cell? ⟨g, j * 2 + 1, none⟩ = some (.slice u x.2.length c) ∧ StrsAt base W (.slice u x.2.length c) x.2 := by
  obtain ⟨E, h1, h2, h3⟩ := h
  have hl : E.length = L.length := by rw [← h1]; simp
  rcases h2.2 with ⟨rfl, h0⟩ | ⟨g, cap, cur, rfl, hb, hg, hc, _, hsz, htk⟩
  · refine ⟨none, 0, by rw [← hl, h0], fun j x hx => ?_⟩
    have : j < L.length := (List.getElem?_eq_some_iff.mp hx).1
    omega
  · refine ⟨_, cap, by rw [hl], fun j x hx => ?_⟩
    rw [← h1, List.getElem?_map] at hx
    cases hE : E[j]? with
    | none => rw [hE] at hx; cases hx
    | some y =>
      rw [hE] at hx
      simp at hx
      subst hx
      have hj : j < E.length := (List.getElem?_eq_some_iff.mp hE).1
      have hs := h3 y (List.mem_of_getElem? hE)
      obtain ⟨u, n, c, hu⟩ := own_slice hs
      have hn : n = y.1.2.length := by rw [hu] at hs; exact own_len hs
      subst hn
      obtain ⟨p1, p2⟩ := pairs_at (fun x : (Nat × List (List UInt8)) × Value => .int .i64 x.1.1) (fun x => x.2) E j
      rw [hE] at p1 p2
      rw [← htk, List.getElem?_take_of_lt (by omega), Array.getElem?_toList] at p1 p2
      refine ⟨g, u, c, rfl, cell_of_block hg _ (by rw [Nat.mul_comm]; exact p1), cell_of_block hg _ (by rw [Nat.mul_comm]; rw [p2]; simp [hu]), by rw [← hu]; exact hs⟩

theorem words_len (l : List UInt8) (k : Nat) : (wordsOf l k).length ≤ l.length :=
  Nat.le_trans (fields_len _) (Nat.le_trans (upTo_le _ _) (Nat.le_trans (upTo_le _ _) (rest_len 10 l k)))

theorem linesTo_words (l : List UInt8) (k : Nat) : ∀ x ∈ linesTo l k, x.2.length ≤ l.length := by
  induction k with
  | zero => intro x hx; cases hx
  | succ k ih =>
    intro x hx
    unfold linesTo at hx
    rcases List.mem_append.mp hx with h | h
    · exact ih x h
    · split at h
      · simp at h; subst h; exact words_len l k
      · cases h

end Go.Proofs.YthbaoocnnfnhnaaDoor
