/-
  DERIVED. GIVEN WITH THE SEED: THE CARDS: each row of YtffcklhoeejlfaaDoorRows.lean that lists a variable, with what it lists TIED to the program's text (the seventh form; the later family's looks); each row that meets fmt, with fmt's text TOLD by the authors' own Lean function (tested against real Go, not proved from fmt's source: count such statements apart). THE CARD IS WHAT COUNTS. Prove the row's statement (the work); the ties are given (YtffcklhoeejlfaaDoorTie.lean); close each card by the builder's one call (the guide's Derived/Test/ToyasCard.lean, 'card_holds'). Laid BY PROGRAM, IN A SANDBOX (cutbox-door.mjs). By AI agents, Wed Nov 11 2026. No macro, syntax, notation, axiom, sorry.
-/
import Derived.Test.YtffcklhoeejlfaaDoorRows
import GoSem.ClaimSeven
namespace Go.Proofs.YtffcklhoeejlfaaDoor
namespace Rows

/-- THE TIED CARD OF 'chronobatelaw16.CountAdds'. -/
def countAddsCard : Claim7 := { stood := { row := countAddsRow, standIns := [], harness := (true, "f0c9f8ebe7d3cb0373b5869e1fea58c2858d4a409ccf5adcb193ad7baf90c49c"), looks := false }, kinds := [], alts := [], laidByText := true, laidKinds := [.data, .data, .data, .widerDeep], laidTests := true, laidLooks := .later }
def CountAddsCardSaid : Prop := Claim7.holds Tryd.pinned (.plain (OpenSpec.ofChange countAddsSpec)) countAddsCard

/-- THE TIED CARD OF 'chronobatelaw16.CountEach'. -/
def countEachCard : Claim7 := { stood := { row := countEachRow, standIns := [], harness := (true, "f0c9f8ebe7d3cb0373b5869e1fea58c2858d4a409ccf5adcb193ad7baf90c49c"), looks := false }, kinds := [], alts := [], laidByText := true, laidKinds := [.data, .data, .data, .widerDeep], laidTests := true, laidLooks := .later }
def CountEachCardSaid : Prop := Claim7.holds Tryd.pinned (.plain (OpenSpec.ofChange countEachSpec)) countEachCard

/-- THE TIED CARD OF 'chronobatelaw16.CountNone'. -/
def countNoneCard : Claim7 := { stood := { row := countNoneRow, standIns := [], harness := (true, "f0c9f8ebe7d3cb0373b5869e1fea58c2858d4a409ccf5adcb193ad7baf90c49c"), looks := false }, kinds := [], alts := [], laidByText := true, laidKinds := [.data, .data, .data, .widerDeep], laidTests := true, laidLooks := .later }
def CountNoneCardSaid : Prop := Claim7.holds Tryd.pinned (.plain (OpenSpec.ofChange countNoneSpec)) countNoneCard

/-- THE TIED CARD OF 'chronobatelaw16.CountOrder'. -/
def countOrderCard : Claim7 := { stood := { row := countOrderRow, standIns := [], harness := (true, "f0c9f8ebe7d3cb0373b5869e1fea58c2858d4a409ccf5adcb193ad7baf90c49c"), looks := false }, kinds := [], alts := [], laidByText := true, laidKinds := [.data, .data, .data, .widerDeep], laidTests := true, laidLooks := .later }
def CountOrderCardSaid : Prop := Claim7.holds Tryd.pinned (.plain (OpenSpec.ofChange countOrderSpec)) countOrderCard

/-- THE SECOND FORM's CARD OF 'chronobatelaw16.CountAdds'. -/
def countAddsUptoCard : Claim7 := { stood := { row := countAddsUptoRow, standIns := [], harness := (true, "f0c9f8ebe7d3cb0373b5869e1fea58c2858d4a409ccf5adcb193ad7baf90c49c"), looks := false }, kinds := [], alts := [], laidByText := true, laidKinds := [.data, .data, .data, .widerDeep], laidTests := true, laidLooks := .later }
def CountAddsUptoCardSaid : Prop := Claim7.holds Tryd.pinned (.plain (OpenSpec.upto countAddsSpec)) countAddsUptoCard

/-- THE SECOND FORM's CARD OF 'chronobatelaw16.CountEach'. -/
def countEachUptoCard : Claim7 := { stood := { row := countEachUptoRow, standIns := [], harness := (true, "f0c9f8ebe7d3cb0373b5869e1fea58c2858d4a409ccf5adcb193ad7baf90c49c"), looks := false }, kinds := [], alts := [], laidByText := true, laidKinds := [.data, .data, .data, .widerDeep], laidTests := true, laidLooks := .later }
def CountEachUptoCardSaid : Prop := Claim7.holds Tryd.pinned (.plain (OpenSpec.upto countEachSpec)) countEachUptoCard

/-- THE SECOND FORM's CARD OF 'chronobatelaw16.CountNone'. -/
def countNoneUptoCard : Claim7 := { stood := { row := countNoneUptoRow, standIns := [], harness := (true, "f0c9f8ebe7d3cb0373b5869e1fea58c2858d4a409ccf5adcb193ad7baf90c49c"), looks := false }, kinds := [], alts := [], laidByText := true, laidKinds := [.data, .data, .data, .widerDeep], laidTests := true, laidLooks := .later }
def CountNoneUptoCardSaid : Prop := Claim7.holds Tryd.pinned (.plain (OpenSpec.upto countNoneSpec)) countNoneUptoCard

/-- THE SECOND FORM's CARD OF 'chronobatelaw16.CountOrder'. -/
def countOrderUptoCard : Claim7 := { stood := { row := countOrderUptoRow, standIns := [], harness := (true, "f0c9f8ebe7d3cb0373b5869e1fea58c2858d4a409ccf5adcb193ad7baf90c49c"), looks := false }, kinds := [], alts := [], laidByText := true, laidKinds := [.data, .data, .data, .widerDeep], laidTests := true, laidLooks := .later }
def CountOrderUptoCardSaid : Prop := Claim7.holds Tryd.pinned (.plain (OpenSpec.upto countOrderSpec)) countOrderUptoCard
end Rows
end Go.Proofs.YtffcklhoeejlfaaDoor
