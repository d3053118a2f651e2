/-
  DERIVED. GIVEN WITH THE SEED: THE CARDS: each row of YtpjfiplejhbdfaaGreatDoorRows.lean that lists a variable, with what it lists TIED to the program's text (the seventh form; the later family's looks); each row that meets fmt, with fmt's text TOLD by the authors' own Lean function (tested against real Go, not proved from fmt's source: count such statements apart). THE CARD IS WHAT COUNTS. Prove the row's statement (the work); the ties are given (YtpjfiplejhbdfaaGreatDoorTie.lean); close each card by the builder's one call (the guide's Derived/Test/ToyasCard.lean, 'card_holds'). Laid BY PROGRAM, IN A SANDBOX (cutbox-door.mjs). By AI agents, Wed Nov 11 2026. No macro, syntax, notation, axiom, sorry.
-/
import Derived.Test.YtpjfiplejhbdfaaGreatDoorRows
import GoSem.ClaimSeven
namespace Go.Proofs.YtpjfiplejhbdfaaGreatDoor
namespace Rows

/-- THE TIED CARD OF 'chronobatelaw17.DaemonSends'. -/
def daemonSendsCard : Claim7 := { stood := { row := daemonSendsRow, standIns := [], harness := (true, "8dfde5bd3c9c3237ee8066847f35ad921765d769aab96f7bac4e159189773cb9"), looks := true }, kinds := [], alts := [], laidByText := true, laidKinds := [.data, .data, .data, .data, .sentinel, .sentinel, .listed, .data, .pinned], laidTests := true, laidLooks := .later }
def DaemonSendsCardSaid : Prop := Claim7.holds Tryz.pinned (.plain (OpenSpec.ofChange daemonSendsSpec)) daemonSendsCard

/-- THE TIED CARD OF 'chronobatelaw20.WorldMany'. -/
def worldManyCard : Claim7 := { stood := { row := worldManyRow, standIns := [], harness := (true, "8dfde5bd3c9c3237ee8066847f35ad921765d769aab96f7bac4e159189773cb9"), looks := true }, kinds := [], alts := [], laidByText := true, laidKinds := [.data, .data, .data, .data, .sentinel, .sentinel, .listed, .data, .pinned], laidTests := true, laidLooks := .later }
def WorldManyCardSaid : Prop := Claim7.holds Tryz.pinned (.plain (OpenSpec.ofChange worldManySpec)) worldManyCard

/-- THE TIED CARD OF 'chronobatelaw20.WorldTimes'. -/
def worldTimesCard : Claim7 := { stood := { row := worldTimesRow, standIns := [], harness := (true, "8dfde5bd3c9c3237ee8066847f35ad921765d769aab96f7bac4e159189773cb9"), looks := true }, kinds := [], alts := [], laidByText := true, laidKinds := [.data, .data, .data, .data, .sentinel, .sentinel, .listed, .data, .pinned], laidTests := true, laidLooks := .later }
def WorldTimesCardSaid : Prop := Claim7.holds Tryz.pinned (.plain (OpenSpec.ofChange worldTimesSpec)) worldTimesCard

/-- THE TIED CARD OF 'chronobatelaw20.WorldRefuses'. -/
def worldRefusesCard : Claim7 := { stood := { row := worldRefusesRow, standIns := [], harness := (true, "8dfde5bd3c9c3237ee8066847f35ad921765d769aab96f7bac4e159189773cb9"), looks := true }, kinds := [], alts := [], laidByText := true, laidKinds := [.data, .data, .data, .data, .sentinel, .sentinel, .widerDeep, .listed, .data, .pinned], laidTests := true, laidLooks := .later }
def WorldRefusesCardSaid : Prop := Claim7.holds Tryz.pinned (.plain (OpenSpec.ofChange worldRefusesSpec)) worldRefusesCard

/-- THE TIED CARD OF 'chronobatelaw20.WorldOwn'. -/
def worldOwnCard : Claim7 := { stood := { row := worldOwnRow, standIns := [], harness := (true, "8dfde5bd3c9c3237ee8066847f35ad921765d769aab96f7bac4e159189773cb9"), looks := true }, kinds := [], alts := [], laidByText := true, laidKinds := [.data, .data, .data, .data, .sentinel, .sentinel, .widerDeep, .listed, .data, .pinned], laidTests := true, laidLooks := .later }
def WorldOwnCardSaid : Prop := Claim7.holds Tryz.pinned (.plain (OpenSpec.ofChange worldOwnSpec)) worldOwnCard

/-- THE TIED CARD OF 'chronobatelaw20.WorldQuiet'. -/
def worldQuietCard : Claim7 := { stood := { row := worldQuietRow, standIns := [], harness := (true, "8dfde5bd3c9c3237ee8066847f35ad921765d769aab96f7bac4e159189773cb9"), looks := true }, kinds := [], alts := [], laidByText := true, laidKinds := [.data, .data, .data, .data, .sentinel, .sentinel, .widerDeep, .listed, .data, .pinned], laidTests := true, laidLooks := .later }
def WorldQuietCardSaid : Prop := Claim7.holds Tryz.pinned (.plain (OpenSpec.ofChange worldQuietSpec)) worldQuietCard

/-- THE SECOND FORM's CARD OF 'chronobatelaw17.DaemonSends'. -/
def daemonSendsUptoCard : Claim7 := { stood := { row := daemonSendsUptoRow, standIns := [], harness := (true, "8dfde5bd3c9c3237ee8066847f35ad921765d769aab96f7bac4e159189773cb9"), looks := true }, kinds := [], alts := [], laidByText := true, laidKinds := [.data, .data, .data, .data, .sentinel, .sentinel, .listed, .data, .pinned], laidTests := true, laidLooks := .later }
def DaemonSendsUptoCardSaid : Prop := Claim7.holds Tryz.pinned (.plain (OpenSpec.upto daemonSendsSpec)) daemonSendsUptoCard

/-- THE SECOND FORM's CARD OF 'chronobatelaw20.WorldMany'. -/
def worldManyUptoCard : Claim7 := { stood := { row := worldManyUptoRow, standIns := [], harness := (true, "8dfde5bd3c9c3237ee8066847f35ad921765d769aab96f7bac4e159189773cb9"), looks := true }, kinds := [], alts := [], laidByText := true, laidKinds := [.data, .data, .data, .data, .sentinel, .sentinel, .listed, .data, .pinned], laidTests := true, laidLooks := .later }
def WorldManyUptoCardSaid : Prop := Claim7.holds Tryz.pinned (.plain (OpenSpec.upto worldManySpec)) worldManyUptoCard

/-- THE SECOND FORM's CARD OF 'chronobatelaw20.WorldTimes'. -/
def worldTimesUptoCard : Claim7 := { stood := { row := worldTimesUptoRow, standIns := [], harness := (true, "8dfde5bd3c9c3237ee8066847f35ad921765d769aab96f7bac4e159189773cb9"), looks := true }, kinds := [], alts := [], laidByText := true, laidKinds := [.data, .data, .data, .data, .sentinel, .sentinel, .listed, .data, .pinned], laidTests := true, laidLooks := .later }
def WorldTimesUptoCardSaid : Prop := Claim7.holds Tryz.pinned (.plain (OpenSpec.upto worldTimesSpec)) worldTimesUptoCard

/-- THE SECOND FORM's CARD OF 'chronobatelaw20.WorldRefuses'. -/
def worldRefusesUptoCard : Claim7 := { stood := { row := worldRefusesUptoRow, standIns := [], harness := (true, "8dfde5bd3c9c3237ee8066847f35ad921765d769aab96f7bac4e159189773cb9"), looks := true }, kinds := [], alts := [], laidByText := true, laidKinds := [.data, .data, .data, .data, .sentinel, .sentinel, .widerDeep, .listed, .data, .pinned], laidTests := true, laidLooks := .later }
def WorldRefusesUptoCardSaid : Prop := Claim7.holds Tryz.pinned (.plain (OpenSpec.upto worldRefusesSpec)) worldRefusesUptoCard

/-- THE SECOND FORM's CARD OF 'chronobatelaw20.WorldOwn'. -/
def worldOwnUptoCard : Claim7 := { stood := { row := worldOwnUptoRow, standIns := [], harness := (true, "8dfde5bd3c9c3237ee8066847f35ad921765d769aab96f7bac4e159189773cb9"), looks := true }, kinds := [], alts := [], laidByText := true, laidKinds := [.data, .data, .data, .data, .sentinel, .sentinel, .widerDeep, .listed, .data, .pinned], laidTests := true, laidLooks := .later }
def WorldOwnUptoCardSaid : Prop := Claim7.holds Tryz.pinned (.plain (OpenSpec.upto worldOwnSpec)) worldOwnUptoCard

/-- THE SECOND FORM's CARD OF 'chronobatelaw20.WorldQuiet'. -/
def worldQuietUptoCard : Claim7 := { stood := { row := worldQuietUptoRow, standIns := [], harness := (true, "8dfde5bd3c9c3237ee8066847f35ad921765d769aab96f7bac4e159189773cb9"), looks := true }, kinds := [], alts := [], laidByText := true, laidKinds := [.data, .data, .data, .data, .sentinel, .sentinel, .widerDeep, .listed, .data, .pinned], laidTests := true, laidLooks := .later }
def WorldQuietUptoCardSaid : Prop := Claim7.holds Tryz.pinned (.plain (OpenSpec.upto worldQuietSpec)) worldQuietUptoCard
end Rows
end Go.Proofs.YtpjfiplejhbdfaaGreatDoor
