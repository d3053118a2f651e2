/-
  DERIVED. GIVEN WITH THE SEED: THE CARDS: each row of YtdcmjjinmnbaoaaGreatDoorRows.lean that lists a variable, with what it lists TIED to the program's text (the seventh form; the later family's looks); each row that meets fmt, with fmt's text TOLD by the authors' own Lean function (tested against real Go, not proved from fmt's source: count such statements apart). THE CARD IS WHAT COUNTS. Prove the row's statement (the work); the ties are given (YtdcmjjinmnbaoaaGreatDoorTie.lean); close each card by the builder's one call (the guide's Derived/Test/ToyasCard.lean, 'card_holds'). Laid BY PROGRAM, IN A SANDBOX (cutbox-door.mjs). By AI agents, Wed Nov 11 2026. No macro, syntax, notation, axiom, sorry.
-/
import Derived.Test.YtdcmjjinmnbaoaaGreatDoorRows
import GoSem.ClaimSeven
namespace Go.Proofs.YtdcmjjinmnbaoaaGreatDoor
namespace Rows

/-- THE TIED CARD OF 'chronobatelaw06.ConfLines'. -/
def confLinesCard : Claim7 := { stood := { row := confLinesRow, standIns := [], harness := (true, "ca4627d0f3cb9aacc3fd2cb816bbffd8390b63ff3574ce494801491d33af517d"), looks := true }, kinds := [], alts := [], laidByText := true, laidKinds := [.data, .data, .data, .data, .sentinel, .sentinel, .listed, .data, .pinned], laidTests := true, laidLooks := .later }
def ConfLinesCardSaid : Prop := Claim7.holds Tryz.pinned (.plain (OpenSpec.ofChange confLinesSpec)) confLinesCard

/-- THE SECOND FORM's CARD OF 'chronobatelaw06.ConfLines'. -/
def confLinesUptoCard : Claim7 := { stood := { row := confLinesUptoRow, standIns := [], harness := (true, "ca4627d0f3cb9aacc3fd2cb816bbffd8390b63ff3574ce494801491d33af517d"), looks := true }, kinds := [], alts := [], laidByText := true, laidKinds := [.data, .data, .data, .data, .sentinel, .sentinel, .listed, .data, .pinned], laidTests := true, laidLooks := .later }
def ConfLinesUptoCardSaid : Prop := Claim7.holds Tryz.pinned (.plain (OpenSpec.upto confLinesSpec)) confLinesUptoCard
end Rows
end Go.Proofs.YtdcmjjinmnbaoaaGreatDoor
