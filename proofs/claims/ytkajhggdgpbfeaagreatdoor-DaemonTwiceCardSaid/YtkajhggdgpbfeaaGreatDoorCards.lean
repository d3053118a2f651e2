/-
  DERIVED. GIVEN WITH THE SEED: THE CARDS: each row of YtkajhggdgpbfeaaGreatDoorRows.lean that lists a variable, with what it lists TIED to the program's text (the seventh form; the later family's looks); each row that meets fmt, with fmt's text TOLD by the authors' own Lean function (tested against real Go, not proved from fmt's source: count such statements apart). THE CARD IS WHAT COUNTS. Prove the row's statement (the work); the ties are given (YtkajhggdgpbfeaaGreatDoorTie.lean); close each card by the builder's one call (the guide's Derived/Test/ToyasCard.lean, 'card_holds'). Laid BY PROGRAM, IN A SANDBOX (cutbox-door.mjs). By AI agents, Wed Nov 11 2026. No macro, syntax, notation, axiom, sorry.
-/
import Derived.Test.YtkajhggdgpbfeaaGreatDoorRows
import GoSem.ClaimSeven
namespace Go.Proofs.YtkajhggdgpbfeaaGreatDoor
namespace Rows

/-- THE TIED CARD OF 'chronobatelaw17.DaemonDeaf'. -/
def daemonDeafCard : Claim7 := { stood := { row := daemonDeafRow, standIns := [], harness := (true, "23b7345665584ccfa7eaf3ff244283c6ea6a5d697b928e8f28821f66ed2587fc"), looks := true }, kinds := [], alts := [], laidByText := true, laidKinds := [.data, .data, .data, .data, .sentinel, .sentinel, .listed, .data, .pinned], laidTests := true, laidLooks := .later }
def DaemonDeafCardSaid : Prop := Claim7.holds Tryz.pinned (.plain (OpenSpec.ofChange daemonDeafSpec)) daemonDeafCard

/-- THE TIED CARD OF 'chronobatelaw17.DaemonApart'. -/
def daemonApartCard : Claim7 := { stood := { row := daemonApartRow, standIns := [], harness := (true, "23b7345665584ccfa7eaf3ff244283c6ea6a5d697b928e8f28821f66ed2587fc"), looks := true }, kinds := [], alts := [], laidByText := true, laidKinds := [.data, .data, .data, .data, .sentinel, .sentinel, .listed, .data, .pinned], laidTests := true, laidLooks := .later }
def DaemonApartCardSaid : Prop := Claim7.holds Tryz.pinned (.plain (OpenSpec.ofChange daemonApartSpec)) daemonApartCard

/-- THE TIED CARD OF 'chronobatelaw17.DaemonSends'. -/
def daemonSendsCard : Claim7 := { stood := { row := daemonSendsRow, standIns := [], harness := (true, "23b7345665584ccfa7eaf3ff244283c6ea6a5d697b928e8f28821f66ed2587fc"), looks := true }, kinds := [], alts := [], laidByText := true, laidKinds := [.data, .data, .data, .data, .sentinel, .sentinel, .listed, .data, .pinned], laidTests := true, laidLooks := .later }
def DaemonSendsCardSaid : Prop := Claim7.holds Tryz.pinned (.plain (OpenSpec.ofChange daemonSendsSpec)) daemonSendsCard

/-- THE TIED CARD OF 'chronobatelaw17.DaemonClock'. -/
def daemonClockCard : Claim7 := { stood := { row := daemonClockRow, standIns := [], harness := (true, "23b7345665584ccfa7eaf3ff244283c6ea6a5d697b928e8f28821f66ed2587fc"), looks := true }, kinds := [], alts := [], laidByText := true, laidKinds := [.data, .data, .data, .data, .sentinel, .sentinel, .listed, .data, .pinned], laidTests := true, laidLooks := .later }
def DaemonClockCardSaid : Prop := Claim7.holds Tryz.pinned (.plain (OpenSpec.ofChange daemonClockSpec)) daemonClockCard

/-- THE TIED CARD OF 'chronobatelaw17.DaemonErrors'. -/
def daemonErrorsCard : Claim7 := { stood := { row := daemonErrorsRow, standIns := [], harness := (true, "23b7345665584ccfa7eaf3ff244283c6ea6a5d697b928e8f28821f66ed2587fc"), looks := true }, kinds := [], alts := [], laidByText := true, laidKinds := [.data, .data, .data, .data, .sentinel, .sentinel, .widerDeep, .listed, .data, .pinned], laidTests := true, laidLooks := .later }
def DaemonErrorsCardSaid : Prop := Claim7.holds Tryz.pinned (.plain (OpenSpec.ofChange daemonErrorsSpec)) daemonErrorsCard

/-- THE TIED CARD OF 'chronobatelaw17.DaemonTwice'. -/
def daemonTwiceCard : Claim7 := { stood := { row := daemonTwiceRow, standIns := [], harness := (true, "23b7345665584ccfa7eaf3ff244283c6ea6a5d697b928e8f28821f66ed2587fc"), looks := true }, kinds := [], alts := [], laidByText := true, laidKinds := [.data, .data, .data, .data, .sentinel, .sentinel, .widerDeep, .listed, .data, .pinned], laidTests := true, laidLooks := .later }
def DaemonTwiceCardSaid : Prop := Claim7.holds Tryz.pinned (.plain (OpenSpec.ofChange daemonTwiceSpec)) daemonTwiceCard

/-- THE TIED CARD OF 'chronobatelaw17.DaemonDoes'. -/
def daemonDoesCard : Claim7 := { stood := { row := daemonDoesRow, standIns := [], harness := (true, "23b7345665584ccfa7eaf3ff244283c6ea6a5d697b928e8f28821f66ed2587fc"), looks := true }, kinds := [], alts := [], laidByText := true, laidKinds := [.data, .data, .data, .data, .sentinel, .sentinel, .widerDeep, .listed, .data, .pinned], laidTests := true, laidLooks := .later }
def DaemonDoesCardSaid : Prop := Claim7.holds Tryz.pinned (.plain (OpenSpec.ofChange daemonDoesSpec)) daemonDoesCard

/-- THE TIED CARD OF 'chronobatelaw17.DaemonNone'. -/
def daemonNoneCard : Claim7 := { stood := { row := daemonNoneRow, standIns := [], harness := (true, "23b7345665584ccfa7eaf3ff244283c6ea6a5d697b928e8f28821f66ed2587fc"), looks := true }, kinds := [], alts := [], laidByText := true, laidKinds := [.data, .data, .data, .data, .sentinel, .sentinel, .widerDeep, .listed, .data, .pinned], laidTests := true, laidLooks := .later }
def DaemonNoneCardSaid : Prop := Claim7.holds Tryz.pinned (.plain (OpenSpec.ofChange daemonNoneSpec)) daemonNoneCard

/-- THE SECOND FORM's CARD OF 'chronobatelaw17.DaemonDeaf'. -/
def daemonDeafUptoCard : Claim7 := { stood := { row := daemonDeafUptoRow, standIns := [], harness := (true, "23b7345665584ccfa7eaf3ff244283c6ea6a5d697b928e8f28821f66ed2587fc"), looks := true }, kinds := [], alts := [], laidByText := true, laidKinds := [.data, .data, .data, .data, .sentinel, .sentinel, .listed, .data, .pinned], laidTests := true, laidLooks := .later }
def DaemonDeafUptoCardSaid : Prop := Claim7.holds Tryz.pinned (.plain (OpenSpec.upto daemonDeafSpec)) daemonDeafUptoCard

/-- THE SECOND FORM's CARD OF 'chronobatelaw17.DaemonApart'. -/
def daemonApartUptoCard : Claim7 := { stood := { row := daemonApartUptoRow, standIns := [], harness := (true, "23b7345665584ccfa7eaf3ff244283c6ea6a5d697b928e8f28821f66ed2587fc"), looks := true }, kinds := [], alts := [], laidByText := true, laidKinds := [.data, .data, .data, .data, .sentinel, .sentinel, .listed, .data, .pinned], laidTests := true, laidLooks := .later }
def DaemonApartUptoCardSaid : Prop := Claim7.holds Tryz.pinned (.plain (OpenSpec.upto daemonApartSpec)) daemonApartUptoCard

/-- THE SECOND FORM's CARD OF 'chronobatelaw17.DaemonSends'. -/
def daemonSendsUptoCard : Claim7 := { stood := { row := daemonSendsUptoRow, standIns := [], harness := (true, "23b7345665584ccfa7eaf3ff244283c6ea6a5d697b928e8f28821f66ed2587fc"), looks := true }, kinds := [], alts := [], laidByText := true, laidKinds := [.data, .data, .data, .data, .sentinel, .sentinel, .listed, .data, .pinned], laidTests := true, laidLooks := .later }
def DaemonSendsUptoCardSaid : Prop := Claim7.holds Tryz.pinned (.plain (OpenSpec.upto daemonSendsSpec)) daemonSendsUptoCard

/-- THE SECOND FORM's CARD OF 'chronobatelaw17.DaemonClock'. -/
def daemonClockUptoCard : Claim7 := { stood := { row := daemonClockUptoRow, standIns := [], harness := (true, "23b7345665584ccfa7eaf3ff244283c6ea6a5d697b928e8f28821f66ed2587fc"), looks := true }, kinds := [], alts := [], laidByText := true, laidKinds := [.data, .data, .data, .data, .sentinel, .sentinel, .listed, .data, .pinned], laidTests := true, laidLooks := .later }
def DaemonClockUptoCardSaid : Prop := Claim7.holds Tryz.pinned (.plain (OpenSpec.upto daemonClockSpec)) daemonClockUptoCard

/-- THE SECOND FORM's CARD OF 'chronobatelaw17.DaemonErrors'. -/
def daemonErrorsUptoCard : Claim7 := { stood := { row := daemonErrorsUptoRow, standIns := [], harness := (true, "23b7345665584ccfa7eaf3ff244283c6ea6a5d697b928e8f28821f66ed2587fc"), looks := true }, kinds := [], alts := [], laidByText := true, laidKinds := [.data, .data, .data, .data, .sentinel, .sentinel, .widerDeep, .listed, .data, .pinned], laidTests := true, laidLooks := .later }
def DaemonErrorsUptoCardSaid : Prop := Claim7.holds Tryz.pinned (.plain (OpenSpec.upto daemonErrorsSpec)) daemonErrorsUptoCard

/-- THE SECOND FORM's CARD OF 'chronobatelaw17.DaemonTwice'. -/
def daemonTwiceUptoCard : Claim7 := { stood := { row := daemonTwiceUptoRow, standIns := [], harness := (true, "23b7345665584ccfa7eaf3ff244283c6ea6a5d697b928e8f28821f66ed2587fc"), looks := true }, kinds := [], alts := [], laidByText := true, laidKinds := [.data, .data, .data, .data, .sentinel, .sentinel, .widerDeep, .listed, .data, .pinned], laidTests := true, laidLooks := .later }
def DaemonTwiceUptoCardSaid : Prop := Claim7.holds Tryz.pinned (.plain (OpenSpec.upto daemonTwiceSpec)) daemonTwiceUptoCard

/-- THE SECOND FORM's CARD OF 'chronobatelaw17.DaemonDoes'. -/
def daemonDoesUptoCard : Claim7 := { stood := { row := daemonDoesUptoRow, standIns := [], harness := (true, "23b7345665584ccfa7eaf3ff244283c6ea6a5d697b928e8f28821f66ed2587fc"), looks := true }, kinds := [], alts := [], laidByText := true, laidKinds := [.data, .data, .data, .data, .sentinel, .sentinel, .widerDeep, .listed, .data, .pinned], laidTests := true, laidLooks := .later }
def DaemonDoesUptoCardSaid : Prop := Claim7.holds Tryz.pinned (.plain (OpenSpec.upto daemonDoesSpec)) daemonDoesUptoCard

/-- THE SECOND FORM's CARD OF 'chronobatelaw17.DaemonNone'. -/
def daemonNoneUptoCard : Claim7 := { stood := { row := daemonNoneUptoRow, standIns := [], harness := (true, "23b7345665584ccfa7eaf3ff244283c6ea6a5d697b928e8f28821f66ed2587fc"), looks := true }, kinds := [], alts := [], laidByText := true, laidKinds := [.data, .data, .data, .data, .sentinel, .sentinel, .widerDeep, .listed, .data, .pinned], laidTests := true, laidLooks := .later }
def DaemonNoneUptoCardSaid : Prop := Claim7.holds Tryz.pinned (.plain (OpenSpec.upto daemonNoneSpec)) daemonNoneUptoCard
end Rows
end Go.Proofs.YtkajhggdgpbfeaaGreatDoor
