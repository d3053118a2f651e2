/- 'for k, v := range m' over a map that nobody writes meanwhile, entry by entry. -/
import Derived.Test.YtdcmjjinmnbaoaaDoorKitQ
import Derived.Maps.RangeRun
import Derived.MapKept
namespace Go.Proofs.YtdcmjjinmnbaoaaDoor
open Go.RowKit

/-- The iterator in block r over the map in block bM, whose entries are es; seen: the stamps of those that have come. -/
structure ItAt (w : World) (r bM : Nat) (es : Array MapEntry) (clock : Nat) (seen : Array Nat) : Prop where
  it : ∃ c0, clock ≤ c0 ∧ w.heap[r]? = some (.mapIter (some bM) clock seen c0)
  map : w.heap[bM]? = some (.map es clock)
  old : ∀ x ∈ es.toList, x.born < clock
  apart : (es.toList.map (·.born)).Nodup

theorem ItAt.keep {S : Nat → Prop} {w w' : World} {r bM : Nat} {es : Array MapEntry} {clock : Nat} {seen : Array Nat} (h : ItAt w r bM es clock seen) (hm : Mod S w w') (h1 : ¬ S r) (h2 : ¬ S bM) : ItAt w' r bM es clock seen :=
  let ⟨c0, hc, hi⟩ := h.it
  ⟨⟨c0, hc, hm.heap hi h1⟩, hm.heap h.map h2, h.old, h.apart⟩

/-- How many are still to come. -/
def itLeft (w : World) (bM r : Nat) : Nat :=
  match w.heap[bM]?, w.heap[r]? with
  | some (.map es _), some (.mapIter _ _ seen _) => (leftOf es seen).size
  | _, _ => 0
theorem ItAt.left {w : World} {r bM : Nat} {es : Array MapEntry} {clock : Nat} {seen : Array Nat} (h : ItAt w r bM es clock seen) : itLeft w bM r = (leftOf es seen).size := by
  obtain ⟨c0, _, hi⟩ := h.it
  simp only [itLeft, h.map, hi]

section
variable {P : Program} {w : World} {ops : Array Oper} {rest : List Oper} {o : Oper} {a : Act} {Q : Exit → Act → World → Prop}

theorem wpList_range_raw (hg : o.guard = none) (m : Operand) (t : TypeId) (hop : o.op = Op.range t m) (k e : TypeId) (ht : P.underlying t = some (.map k e)) (bM : Nat) (es : Array MapEntry) (clock : Nat)
    (hm : a.eval m = .map (some bM)) (hb : w.heap[bM]? = some (.map es clock)) (hold : ∀ x ∈ es.toList, x.born < clock) (hap : (es.toList.map (·.born)).Nodup)
    (hK : ∀ w', ItAt w' w.heap.size bM es clock #[] → Mod NoB w w' → w'.heap.size = w.heap.size + 1 → wpList P ops Q rest (a.put o.dst (.pointer (some ⟨w.heap.size, 0, none⟩))) w') :
    wpList P ops Q (o :: rest) a w := by
  refine wpList_plain hg fun K' hK' => ?_
  have hlt := lt_of_block hb
  have hrun := run_range_map w t k e bM es clock ht hb
  unfold Oper.wp
  simp [execOp, hop, hm, hrun, Result.andThen]
  exact hK' _ _ (hK _ ⟨⟨clock, Nat.le_refl _, heap_alloc_new _ _⟩, (heap_alloc_old hlt _).trans hb, hold, hap⟩ ((Mod.refl _ _).alloc _) (by simp))

theorem wpList_next_raw (hg : o.guard = none) (it : Operand) (hop : o.op = Op.next it false) (r bM : Nat) (es : Array MapEntry) (clock : Nat) (seen : Array Nat)
    (hit : a.eval it = .pointer (some ⟨r, 0, none⟩)) (h : ItAt w r bM es clock seen)
    (hDone : (∀ x ∈ es.toList, seen.contains x.born = true) → wpList P ops Q rest (a.put o.dst (.tuple #[.bool false])) w)
    (hMore : ∀ (e : MapEntry) (w' : World), e ∈ es.toList → seen.contains e.born = false → ItAt w' r bM es clock (seen.push e.born) → Mod (· = r) w w' → w'.heap.size = w.heap.size → itLeft w' bM r < itLeft w bM r →
      (Instr.entry (.pointer (some ⟨r, 0, none⟩))).run P w' = .ok (.tuple #[e.key, e.val]) w' → wpList P ops Q rest (a.put o.dst (.tuple #[.bool true, e.key, e.val])) w') :
    wpList P ops Q (o :: rest) a w := by
  refine wpList_plain hg fun K' hK' => ?_
  unfold Oper.wp
  obtain ⟨c0, hc0, hi⟩ := h.it
  have hne : r ≠ bM := fun e => by subst e; rw [h.map] at hi; cases hi
  rcases run_next_at (P := P) w o.type r bM clock c0 seen es clock hi h.map h.old hc0 with ⟨h0, hrun⟩ | ⟨e, he, w1, hal, hrun⟩
  · simp [execOp, hop, hit, hrun, Result.andThen]
    exact hK' _ _ (hDone (all_seen es seen h0))
  · obtain ⟨hem, hes⟩ := mem_left he
    have hm1 : Mod NoB w w1 := by rcases hal with rfl | rfl; exact Mod.refl _ _; exact (Mod.refl _ _).drew
    have hsz1 : w1.heap.size = w.heap.size := by rcases hal with rfl | rfl <;> rfl
    have hi1 := hm1.heap hi id
    have hlt1 := lt_of_block hi1
    have hset : (ChangeMaps.setBlock w1 r (.mapIter (some bM) clock (seen.push e.born) clock)).heap[r]? = some (.mapIter (some bM) clock (seen.push e.born) clock) := by simp [ChangeMaps.setBlock, hlt1]
    have hmod : Mod (· = r) w1 (ChangeMaps.setBlock w1 r (.mapIter (some bM) clock (seen.push e.born) clock)) :=
      ⟨rfl, rfl, rfl, by simp [ChangeMaps.setBlock], fun k hk hn => by simp [ChangeMaps.setBlock]; rw [Array.getElem?_setIfInBounds_ne (fun e => hn e.symm)]⟩
    have hI : ItAt (ChangeMaps.setBlock w1 r (.mapIter (some bM) clock (seen.push e.born) clock)) r bM es clock (seen.push e.born) :=
      ⟨⟨clock, Nat.le_refl _, hset⟩, hmod.heap (hm1.heap h.map id) (fun e => hne e.symm), h.old, h.apart⟩
    simp [execOp, hop, hit, hrun, Result.andThen]
    refine hK' _ _ (hMore e _ hem hes hI ((hm1.mono (fun _ _ f => f.elim)).trans hmod) (by simp [ChangeMaps.setBlock, hsz1]) ?_ (run_entry_at _ r bM clock seen es clock e hset hI.map hem h.apart))
    rw [hI.left, h.left]
    exact left_shrinks es seen e he
end
end Go.Proofs.YtdcmjjinmnbaoaaDoor
