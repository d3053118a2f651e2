/-
  DERIVED. GIVEN WITH THE SEED: THE CARDS: each row of YtdcmjjinmnbaoaaDoorRows.lean that lists a variable, with what it lists TIED to the program's text (the seventh form; the later family's looks); each row that meets fmt, with fmt's text TOLD by the authors' own Lean function (tested against real Go, not proved from fmt's source: count such statements apart). THE CARD IS WHAT COUNTS. Prove the row's statement (the work); the ties are given (YtdcmjjinmnbaoaaDoorTie.lean); close each card by the builder's one call (the guide's Derived/Test/ToyasCard.lean, 'card_holds'). Laid BY PROGRAM, IN A SANDBOX (cutbox-door.mjs). By AI agents, Wed Nov 11 2026. No macro, syntax, notation, axiom, sorry.
-/
import Derived.Test.YtdcmjjinmnbaoaaDoorRows
import GoSem.ClaimSeven
namespace Go.Proofs.YtdcmjjinmnbaoaaDoor
namespace Rows

/-- THE TIED CARD OF 'chronobatelaw06.ConfParses'. -/
def confParsesCard : Claim7 := { stood := { row := confParsesRow, standIns := [], harness := (true, "bac57807a724b5547bfe58d05194201863ac260eaa82a1f1bcd38dcacfcea928"), looks := true }, kinds := [], alts := [], laidByText := true, laidKinds := [.data, .data, .data, .data, .sentinel, .sentinel, .listed, .data, .pinned], laidTests := true, laidLooks := .later }
def ConfParsesCardSaid : Prop := Claim7.holds Tryd.pinned (.plain (OpenSpec.ofChange confParsesSpec)) confParsesCard

/-- THE TIED CARD OF 'chronobatelaw06.ConfChecks'. -/
def confChecksCard : Claim7 := { stood := { row := confChecksRow, standIns := [], harness := (true, "bac57807a724b5547bfe58d05194201863ac260eaa82a1f1bcd38dcacfcea928"), looks := true }, kinds := [], alts := [], laidByText := true, laidKinds := [.data, .data, .data, .data, .sentinel, .sentinel, .listed, .data, .pinned], laidTests := true, laidLooks := .later }
def ConfChecksCardSaid : Prop := Claim7.holds Tryd.pinned (.plain (OpenSpec.ofChange confChecksSpec)) confChecksCard

/-- THE TIED CARD OF 'chronobatelaw06.ConfBack'. -/
def confBackCard : Claim7 := { stood := { row := confBackRow, standIns := [], harness := (true, "bac57807a724b5547bfe58d05194201863ac260eaa82a1f1bcd38dcacfcea928"), looks := true }, kinds := [], alts := [], laidByText := true, laidKinds := [.data, .data, .data, .data, .sentinel, .sentinel, .listed, .data, .pinned], laidTests := true, laidLooks := .later }
def ConfBackCardSaid : Prop := Claim7.holds Tryd.pinned (.plain (OpenSpec.ofChange confBackSpec)) confBackCard

/-- THE TIED CARD OF 'chronobatelaw06.ConfSame'. -/
def confSameCard : Claim7 := { stood := { row := confSameRow, standIns := [], harness := (true, "bac57807a724b5547bfe58d05194201863ac260eaa82a1f1bcd38dcacfcea928"), looks := true }, kinds := [], alts := [], laidByText := true, laidKinds := [.data, .data, .data, .data, .sentinel, .sentinel, .listed, .data, .pinned], laidTests := true, laidLooks := .later }
def ConfSameCardSaid : Prop := Claim7.holds Tryd.pinned (.plain (OpenSpec.ofChange confSameSpec)) confSameCard

/-- THE TIED CARD OF 'chronobatelaw06.ConfOrder'. -/
def confOrderCard : Claim7 := { stood := { row := confOrderRow, standIns := [], harness := (true, "bac57807a724b5547bfe58d05194201863ac260eaa82a1f1bcd38dcacfcea928"), looks := true }, kinds := [], alts := [], laidByText := true, laidKinds := [.data, .data, .data, .data, .sentinel, .sentinel, .listed, .data, .pinned], laidTests := true, laidLooks := .later }
def ConfOrderCardSaid : Prop := Claim7.holds Tryd.pinned (.plain (OpenSpec.ofChange confOrderSpec)) confOrderCard

/-- THE TIED CARD OF 'chronobatelaw06.ConfFirst'. -/
def confFirstCard : Claim7 := { stood := { row := confFirstRow, standIns := [], harness := (true, "bac57807a724b5547bfe58d05194201863ac260eaa82a1f1bcd38dcacfcea928"), looks := true }, kinds := [], alts := [], laidByText := true, laidKinds := [.data, .data, .data, .data, .sentinel, .sentinel, .listed, .data, .pinned], laidTests := true, laidLooks := .later }
def ConfFirstCardSaid : Prop := Claim7.holds Tryd.pinned (.plain (OpenSpec.ofChange confFirstSpec)) confFirstCard

/-- THE SECOND FORM's CARD OF 'chronobatelaw06.ConfParses'. -/
def confParsesUptoCard : Claim7 := { stood := { row := confParsesUptoRow, standIns := [], harness := (true, "bac57807a724b5547bfe58d05194201863ac260eaa82a1f1bcd38dcacfcea928"), looks := true }, kinds := [], alts := [], laidByText := true, laidKinds := [.data, .data, .data, .data, .sentinel, .sentinel, .listed, .data, .pinned], laidTests := true, laidLooks := .later }
def ConfParsesUptoCardSaid : Prop := Claim7.holds Tryd.pinned (.plain (OpenSpec.upto confParsesSpec)) confParsesUptoCard

/-- THE SECOND FORM's CARD OF 'chronobatelaw06.ConfChecks'. -/
def confChecksUptoCard : Claim7 := { stood := { row := confChecksUptoRow, standIns := [], harness := (true, "bac57807a724b5547bfe58d05194201863ac260eaa82a1f1bcd38dcacfcea928"), looks := true }, kinds := [], alts := [], laidByText := true, laidKinds := [.data, .data, .data, .data, .sentinel, .sentinel, .listed, .data, .pinned], laidTests := true, laidLooks := .later }
def ConfChecksUptoCardSaid : Prop := Claim7.holds Tryd.pinned (.plain (OpenSpec.upto confChecksSpec)) confChecksUptoCard

/-- THE SECOND FORM's CARD OF 'chronobatelaw06.ConfBack'. -/
def confBackUptoCard : Claim7 := { stood := { row := confBackUptoRow, standIns := [], harness := (true, "bac57807a724b5547bfe58d05194201863ac260eaa82a1f1bcd38dcacfcea928"), looks := true }, kinds := [], alts := [], laidByText := true, laidKinds := [.data, .data, .data, .data, .sentinel, .sentinel, .listed, .data, .pinned], laidTests := true, laidLooks := .later }
def ConfBackUptoCardSaid : Prop := Claim7.holds Tryd.pinned (.plain (OpenSpec.upto confBackSpec)) confBackUptoCard

/-- THE SECOND FORM's CARD OF 'chronobatelaw06.ConfSame'. -/
def confSameUptoCard : Claim7 := { stood := { row := confSameUptoRow, standIns := [], harness := (true, "bac57807a724b5547bfe58d05194201863ac260eaa82a1f1bcd38dcacfcea928"), looks := true }, kinds := [], alts := [], laidByText := true, laidKinds := [.data, .data, .data, .data, .sentinel, .sentinel, .listed, .data, .pinned], laidTests := true, laidLooks := .later }
def ConfSameUptoCardSaid : Prop := Claim7.holds Tryd.pinned (.plain (OpenSpec.upto confSameSpec)) confSameUptoCard

/-- THE SECOND FORM's CARD OF 'chronobatelaw06.ConfOrder'. -/
def confOrderUptoCard : Claim7 := { stood := { row := confOrderUptoRow, standIns := [], harness := (true, "bac57807a724b5547bfe58d05194201863ac260eaa82a1f1bcd38dcacfcea928"), looks := true }, kinds := [], alts := [], laidByText := true, laidKinds := [.data, .data, .data, .data, .sentinel, .sentinel, .listed, .data, .pinned], laidTests := true, laidLooks := .later }
def ConfOrderUptoCardSaid : Prop := Claim7.holds Tryd.pinned (.plain (OpenSpec.upto confOrderSpec)) confOrderUptoCard

/-- THE SECOND FORM's CARD OF 'chronobatelaw06.ConfFirst'. -/
def confFirstUptoCard : Claim7 := { stood := { row := confFirstUptoRow, standIns := [], harness := (true, "bac57807a724b5547bfe58d05194201863ac260eaa82a1f1bcd38dcacfcea928"), looks := true }, kinds := [], alts := [], laidByText := true, laidKinds := [.data, .data, .data, .data, .sentinel, .sentinel, .listed, .data, .pinned], laidTests := true, laidLooks := .later }
def ConfFirstUptoCardSaid : Prop := Claim7.holds Tryd.pinned (.plain (OpenSpec.upto confFirstSpec)) confFirstUptoCard
end Rows
end Go.Proofs.YtdcmjjinmnbaoaaDoor
