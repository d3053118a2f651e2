/- What the laws of package chronobatelaw13 share: a list of bools as an argument; a backoff behind some calls. -/
import Derived.Test.YtlcnahnondgofaaBkD
import Derived.Deep.Grids
namespace Go.Proofs.Ytlcnahnondgofaa
open Go.RowKit Go.Deep Go.ChangeShapes Go.WideShapes Go.ChangeAt

/-- A slice of bools: x its place, n its length, B its elements. -/
def BoolsAt (w : World) (x : Option Addr) (n : Nat) (B : Nat → Bool) : Prop :=
  ∀ i, i < n → ∃ b off, x = some ⟨b, off, none⟩ ∧ b < w.heap.size ∧ ∀ j, j < n → w.cell? ⟨b, off + j, none⟩ = some (.bool (B j))

theorem open_boolsAt {H : Type} {enc : TypeId × Value → H} {P : Program} {W : World} {t e : TypeId} {v : Value} {d : DataW H} {p : List MemPlace} {base : Nat} {r : Reach}
    (ht : P.underlying t = some (.slice e)) (he : P.underlying e = some .bool) (hc : P.cellsOf e = 1) (hv : Value.okWide P W r base t v)
    (h : DataW.Trod enc P W 0 (fun _ => true) true t v d p) :
    ∃ x n cap B, v = .slice x n cap ∧ n ≤ 9223372036854775807 ∧ BoolsAt W x n B := by
  obtain ⟨a0, len, cap, rfl⟩ := okWide_slice ht hv
  obtain ⟨fuel, hf⟩ := h
  rcases open_bools ht he hc hf with ⟨hcs, hx⟩ | ⟨a, len', cap', B, hcs, _, hl, hm, hx, hcell⟩
  · simp [Value.cells] at hcs
    obtain ⟨rfl, rfl, rfl⟩ := hcs
    exact ⟨none, 0, 0, fun _ => false, rfl, by omega, fun i hi => by omega⟩
  · simp [Value.cells] at hcs
    obtain ⟨rfl, rfl, rfl⟩ := hcs
    unfold maxLen at hm
    refine ⟨some a, len, cap, B, rfl, by omega, fun i hi => ?_⟩
    obtain ⟨b, off, spot⟩ := a
    have h0 := hcell 0 (by omega)
    have hspot : spot = none := by simpa [Addr.add] using World.cell?_spot h0
    subst hspot
    refine ⟨b, off, rfl, ?_, fun j hj => by rw [← Go.WideShapes.add_plain]; exact hcell j (by omega)⟩
    rcases Nat.lt_or_ge b W.heap.size with hb | hb
    · exact hb
    · simp [World.cell?, Addr.add, Array.getElem?_eq_none hb] at h0

/-- Fails and Goods: what a backoff between l and m is behind the first k calls. -/
def stB (l m : Int) (B : Nat → Bool) : Nat → Int × Int
  | 0 => (l, 0)
  | k + 1 => if B k then (nextZ (stB l m B k).1 m, (stB l m B k).2 + 1) else (l, 0)

theorem stB_in {l m : Int} (B : Nat → Bool) (h1 : 4 ≤ l) (h2 : l ≤ m) (h3 : m ≤ 1024) (k : Nat) :
    l ≤ (stB l m B k).1 ∧ (stB l m B k).1 ≤ m ∧ 0 ≤ (stB l m B k).2 ∧ (stB l m B k).2 ≤ k := by
  induction k with
  | zero => simp only [stB]; omega
  | succ k ih =>
    obtain ⟨a, b, c, d⟩ := ih
    simp only [stB]
    split
    · simp only [nextZ]
      rw [if_neg (by omega)]
      split <;> omega
    · simp only
      omega

theorem stB_yes {l m : Int} {B : Nat → Bool} {k : Nat} (h : B k = true) : stB l m B (k + 1) = (nextZ (stB l m B k).1 m, (stB l m B k).2 + 1) := by
  simp [stB, h]
theorem stB_no {l m : Int} {B : Nat → Bool} {k : Nat} (h : B k = false) : stB l m B (k + 1) = (l, 0) := by
  simp [stB, h]

end Go.Proofs.Ytlcnahnondgofaa
