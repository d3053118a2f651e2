/- Regions that draw their order, with calls that make memory: one walk in the order of the text (the kit's quiet regions, at the class of the worlds in which nothing old has turned). -/
import Derived.Test.YthbaoocnnfnhnaaDoorKitApp
import Derived.Deep.QuietTactic
import Derived.BigQuiet
namespace Go.Proofs.YthbaoocnnfnhnaaDoor
open Go.RowKit

theorem lt_of_cell {w : World} {b o : Nat} {v : Value} (h : w.cell? ⟨b, o, none⟩ = some v) : b < w.heap.size := World.block_lt_of_cell? w _ h

/-- A world in which all that lay in w lies as it lay. -/
def Since (w : World) : Type := { w' : World // Mod NoB w w' }

instance (w : World) : Nonempty (Since w) := ⟨⟨w, Mod.refl NoB w⟩⟩

theorem Since.cell {w : World} {b o : Nat} {v : Value} (h : w.cell? ⟨b, o, none⟩ = some v) (x : Since w) : x.1.cell? ⟨b, o, none⟩ = some v := x.2.cellAt id h

theorem Since.call {P : Program} {f : FuncId} {args : Array Value} {w : World} {v : Value} (x : Since w)
    (h : ∀ w', Mod NoB w w' → Calls P f args w' fun e w'' => e = .returned v ∧ Mod NoB w' w'') : Calls P f args x.1 fun e w'' => e = .returned v ∧ ∃ y : Since w, w'' = y.1 :=
  (h x.1 x.2).mono fun _ w'' ⟨h1, h2⟩ => ⟨h1, ⟨w'', x.2.trans h2⟩, rfl⟩

theorem wp_region_mod {P : Program} {id : Nat} {Q : Exit → Act → World → Prop} {a : Act} {w : World} {l : List Oper} (hm : P.follows .mixedOrders = true) (hB : Region.lexB .any l.toArray = true)
    (h : wpQuiet P l.toArray (fun w' => ∃ x : Since w, w' = x.1) (fun a' => ∀ w', (∃ x : Since w, w' = x.1) → Q .normal a' w') l a) : (Code.region id l.toArray true).wp P Q a w :=
  wp_region_quiet (C := fun w' => ∃ x : Since w, w' = x.1) hm hB ⟨⟨w.drew, (Mod.refl NoB w).drew⟩, rfl⟩ (by simpa using h)
end Go.Proofs.YthbaoocnnfnhnaaDoor
