/- A slice of integers as an argument that is only read. -/
import Derived.Test.YthbaoocnnfnhnaaDoorKit
namespace Go.Proofs.YthbaoocnnfnhnaaDoor
open Go.RowKit Go.ChangeShapes Go.WideShapes Go.ChangeAt

/-- x: its place, n: its length, Z: its elements, of kind k. -/
def IntsAt (k : IntKind) (w : World) (x : Option Addr) (n : Nat) (Z : Nat → Int) : Prop :=
  ∀ i, i < n → ∃ b off, x = some ⟨b, off, none⟩ ∧ b < w.heap.size ∧ ∀ j, j < n → w.cell? ⟨b, off + j, none⟩ = some (.int k (Z j))

theorem open_intsAt {H : Type} {enc : TypeId × Value → H} {P : Program} {W : World} {t e : TypeId} {v : Value} {d : DataW H} {p : List MemPlace} {base : Nat} {r : Reach} {k : IntKind}
    (ht : P.underlying t = some (.slice e)) (he : P.underlying e = some (.int k)) (hc : P.cellsOf e = 1) (hv : Value.okWide P W r base t v)
    (h : DataW.Trod enc P W 0 (fun _ => true) true t v d p) :
    ∃ x n cap Z, v = .slice x n cap ∧ n ≤ cap ∧ cap ≤ 9223372036854775807 ∧ IntsAt k W x n Z ∧ ∀ j, j < n → (Lit.int k (Z j)).wf = true := by
  obtain ⟨a0, len, cap, rfl⟩ := okWide_slice ht hv
  obtain ⟨fuel, hf⟩ := h
  rcases open_ints ht he hc hf with ⟨hcs, hx⟩ | ⟨a, len', cap', zs, hcs, _, hl, hm, hz, hx, hcell, hwz⟩
  · simp [Value.cells] at hcs
    obtain ⟨rfl, rfl, rfl⟩ := hcs
    exact ⟨none, 0, 0, fun _ => 0, rfl, Nat.le_refl _, by omega, fun i hi => by omega, fun i hi => by omega⟩
  · simp [Value.cells] at hcs
    obtain ⟨rfl, rfl, rfl⟩ := hcs
    unfold maxLen at hm
    simp only [if_true] at hz
    refine ⟨some a, len, cap, fun j => zs.getD j 0, rfl, hl, by omega, fun i hi => ?_, fun j hj => ?_⟩
    · obtain ⟨b, off, spot⟩ := a
      have h0 := hcell 0 (by omega)
      have hspot : spot = none := by simpa [Addr.add] using World.cell?_spot h0
      subst hspot
      refine ⟨b, off, rfl, ?_, fun j hj => by rw [← Go.WideShapes.add_plain]; exact hcell j (by omega)⟩
      rcases Nat.lt_or_ge b W.heap.size with hb | hb
      · exact hb
      · simp [World.cell?, Addr.add, Array.getElem?_eq_none hb] at h0
    · have hj2 : j < zs.length := by omega
      have : zs.getD j 0 = zs[j] := by simp [List.getD, hj2]
      show (Lit.int k (zs.getD j 0)).wf = true
      rw [this]
      exact hwz _ (List.getElem_mem hj2)

end Go.Proofs.YthbaoocnnfnhnaaDoor
