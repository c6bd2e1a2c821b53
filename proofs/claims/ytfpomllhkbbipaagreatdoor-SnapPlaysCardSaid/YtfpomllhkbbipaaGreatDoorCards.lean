/-
  DERIVED. GIVEN WITH THE SEED: THE CARDS: each row of YtfpomllhkbbipaaGreatDoorRows.lean that lists a variable, with what it lists TIED to the program's text (the seventh form; the later family's looks); each row that meets fmt, with fmt's text TOLD by the authors' own Lean function (tested against real Go, not proved from fmt's source: count such statements apart). THE CARD IS WHAT COUNTS. Prove the row's statement (the work); the ties are given (YtfpomllhkbbipaaGreatDoorTie.lean); close each card by the builder's one call (the guide's Derived/Test/ToyasCard.lean, 'card_holds'). Laid BY PROGRAM, IN A SANDBOX (cutbox-door.mjs). By AI agents, Wed Nov 11 2026. No macro, syntax, notation, axiom, sorry.
-/
import Derived.Test.YtfpomllhkbbipaaGreatDoorRows
import GoSem.ClaimSeven
namespace Go.Proofs.YtfpomllhkbbipaaGreatDoor
namespace Rows

/-- THE TIED CARD OF 'quilletlaw08.SnapPlays'. -/
def snapPlaysCard : Claim7 := { stood := { row := snapPlaysRow, standIns := [], harness := (true, "ffdb7416732660097111dc3900f8223a26d6de58f7f73b3012933cba094a2093"), looks := true }, kinds := [], alts := [], laidByText := true, laidKinds := [.data, .data, .data, .sentinel, .sentinel], laidTests := true, laidLooks := .later }
def SnapPlaysCardSaid : Prop := Claim7.holds Tryz.pinned (.plain (OpenSpec.ofChange snapPlaysSpec)) snapPlaysCard

/-- THE TIED CARD OF 'quilletlaw08.SnapWhole'. -/
def snapWholeCard : Claim7 := { stood := { row := snapWholeRow, standIns := [], harness := (true, "ffdb7416732660097111dc3900f8223a26d6de58f7f73b3012933cba094a2093"), looks := true }, kinds := [], alts := [], laidByText := true, laidKinds := [.data, .data, .data, .sentinel, .sentinel], laidTests := true, laidLooks := .later }
def SnapWholeCardSaid : Prop := Claim7.holds Tryz.pinned (.plain (OpenSpec.ofChange snapWholeSpec)) snapWholeCard

/-- THE TIED CARD OF 'quilletlaw08.SnapRaw'. -/
def snapRawCard : Claim7 := { stood := { row := snapRawRow, standIns := [], harness := (true, "ffdb7416732660097111dc3900f8223a26d6de58f7f73b3012933cba094a2093"), looks := true }, kinds := [], alts := [], laidByText := true, laidKinds := [.data, .data, .data, .sentinel, .sentinel], laidTests := true, laidLooks := .later }
def SnapRawCardSaid : Prop := Claim7.holds Tryz.pinned (.plain (OpenSpec.ofChange snapRawSpec)) snapRawCard

/-- THE TIED CARD OF 'quilletlaw08.SnapNewer'. -/
def snapNewerCard : Claim7 := { stood := { row := snapNewerRow, standIns := [], harness := (true, "ffdb7416732660097111dc3900f8223a26d6de58f7f73b3012933cba094a2093"), looks := true }, kinds := [], alts := [], laidByText := true, laidKinds := [.data, .data, .data, .sentinel, .sentinel], laidTests := true, laidLooks := .later }
def SnapNewerCardSaid : Prop := Claim7.holds Tryz.pinned (.plain (OpenSpec.ofChange snapNewerSpec)) snapNewerCard

/-- THE SECOND FORM's CARD OF 'quilletlaw08.SnapPlays'. -/
def snapPlaysUptoCard : Claim7 := { stood := { row := snapPlaysUptoRow, standIns := [], harness := (true, "ffdb7416732660097111dc3900f8223a26d6de58f7f73b3012933cba094a2093"), looks := true }, kinds := [], alts := [], laidByText := true, laidKinds := [.data, .data, .data, .sentinel, .sentinel], laidTests := true, laidLooks := .later }
def SnapPlaysUptoCardSaid : Prop := Claim7.holds Tryz.pinned (.plain (OpenSpec.upto snapPlaysSpec)) snapPlaysUptoCard

/-- THE SECOND FORM's CARD OF 'quilletlaw08.SnapWhole'. -/
def snapWholeUptoCard : Claim7 := { stood := { row := snapWholeUptoRow, standIns := [], harness := (true, "ffdb7416732660097111dc3900f8223a26d6de58f7f73b3012933cba094a2093"), looks := true }, kinds := [], alts := [], laidByText := true, laidKinds := [.data, .data, .data, .sentinel, .sentinel], laidTests := true, laidLooks := .later }
def SnapWholeUptoCardSaid : Prop := Claim7.holds Tryz.pinned (.plain (OpenSpec.upto snapWholeSpec)) snapWholeUptoCard

/-- THE SECOND FORM's CARD OF 'quilletlaw08.SnapRaw'. -/
def snapRawUptoCard : Claim7 := { stood := { row := snapRawUptoRow, standIns := [], harness := (true, "ffdb7416732660097111dc3900f8223a26d6de58f7f73b3012933cba094a2093"), looks := true }, kinds := [], alts := [], laidByText := true, laidKinds := [.data, .data, .data, .sentinel, .sentinel], laidTests := true, laidLooks := .later }
def SnapRawUptoCardSaid : Prop := Claim7.holds Tryz.pinned (.plain (OpenSpec.upto snapRawSpec)) snapRawUptoCard

/-- THE SECOND FORM's CARD OF 'quilletlaw08.SnapNewer'. -/
def snapNewerUptoCard : Claim7 := { stood := { row := snapNewerUptoRow, standIns := [], harness := (true, "ffdb7416732660097111dc3900f8223a26d6de58f7f73b3012933cba094a2093"), looks := true }, kinds := [], alts := [], laidByText := true, laidKinds := [.data, .data, .data, .sentinel, .sentinel], laidTests := true, laidLooks := .later }
def SnapNewerUptoCardSaid : Prop := Claim7.holds Tryz.pinned (.plain (OpenSpec.upto snapNewerSpec)) snapNewerUptoCard
end Rows
end Go.Proofs.YtfpomllhkbbipaaGreatDoor
