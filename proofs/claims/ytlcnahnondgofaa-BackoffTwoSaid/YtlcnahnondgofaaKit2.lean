/- More words on arguments: an array of integers handed in by value. -/
import Derived.Test.YtlcnahnondgofaaKit
import Derived.Deep.Slices
namespace Go.Proofs.Ytlcnahnondgofaa
open Go.RowKit Go.Deep Go.ChangeShapes Go.WideShapes Go.ChangeAt

section
variable {H : Type} {enc : TypeId × Value → H} {P : Program} {W : World}

theorem okWide_array {t e : TypeId} {n base : Nat} {r : Reach} {v : Value} (ht : P.underlying t = some (.array n e)) (h : Value.okWide P W r base t v) : ∃ cs, v = .agg cs ∧ cs.size = P.cellsOf t := by
  simp only [Value.okWide, ht] at h
  obtain ⟨cs, h1, h2, _⟩ := h
  exact ⟨cs, h1, h2⟩

/-- An array of n integers of one kind, by value. -/
theorem open_intArr {t e : TypeId} {n base : Nat} {r : Reach} {k : IntKind} {v : Value} {d : DataW H} {p : List MemPlace}
    (ht : P.underlying t = some (.array n e)) (he : P.underlying e = some (.int k)) (hc : P.cellsOf e = 1) (hct : P.cellsOf t = n)
    (hv : Value.okWide P W r base t v) (h : DataW.Trod enc P W 0 (fun _ => true) true t v d p) :
    ∃ xs : List Int, xs.length = n ∧ v = .agg (xs.map (Value.int k)).toArray ∧ ∀ i, i < n → (Lit.int k (xs.getD i 0)).wf = true := by
  obtain ⟨cs, rfl, hsz⟩ := okWide_array ht hv
  obtain ⟨fuel, hf⟩ := h
  obtain ⟨ys, m, _, hx, hl, hyl, hel⟩ := DataW.trod_array ht hf
  rw [hct] at hsz
  have hone : ∀ i, i < n → ∃ z : Int, cs.toList[i]? = some (.int k z) ∧ (Lit.int k z).wf = true := by
    intro i hi
    have h1 := hel i hi
    rw [hc, Nat.mul_one, List.getElem?_eq_getElem (by omega)] at h1
    obtain ⟨z, hz, _, hw⟩ := DataW.trod_int he h1
    refine ⟨z, ?_, hw⟩
    have h2 : (List.drop i (Value.cells (.agg cs)).toList)[0]? = some (.int k z) := by
      have : (List.take 1 (List.drop i (Value.cells (.agg cs)).toList))[0]? = some (.int k z) := by rw [hz]; rfl
      simpa using this
    simpa [Value.cells] using h2
  obtain ⟨Z, hZ⟩ := choose_lt (α := Int) hone
  refine ⟨(List.range n).map Z, by simp, ?_, ?_⟩
  · congr 1
    apply Array.ext'
    apply List.ext_getElem?
    intro i
    by_cases hi : i < n
    · rw [(hZ i hi).1]
      simp [hi]
    · rw [List.getElem?_eq_none (by simp [hsz]; omega)]
      simp [hi]
  · intro i hi
    simpa [hi, List.getD] using (hZ i hi).2
end

end Go.Proofs.Ytlcnahnondgofaa
