/-
  DERIVED. GIVEN WITH THE SEED: THE CARDS: each row of YtifgajinfcihmaaGreatDoorRows.lean that lists a variable, with what it lists TIED to the program's text (the seventh form; the later family's looks); each row that meets fmt, with fmt's text TOLD by the authors' own Lean function (tested against real Go, not proved from fmt's source: count such statements apart). THE CARD IS WHAT COUNTS. Prove the row's statement (the work); the ties are given (YtifgajinfcihmaaGreatDoorTie.lean); close each card by the builder's one call (the guide's Derived/Test/ToyasCard.lean, 'card_holds'). Laid BY PROGRAM, IN A SANDBOX (cutbox-door.mjs). By AI agents, Wed Nov 11 2026. No macro, syntax, notation, axiom, sorry.
-/
import Derived.Test.YtifgajinfcihmaaGreatDoorRows
import GoSem.ClaimSeven
namespace Go.Proofs.YtifgajinfcihmaaGreatDoor
namespace Rows

/-- THE TIED CARD OF 'quilletlaw06.WalRaw'. -/
def walRawCard : Claim7 := { stood := { row := walRawRow, standIns := [], harness := (true, "01a0e7f98a369a5fe52ea47ddd57beb03e3bdc53059ef298e479e154f8e62bf7"), looks := true }, kinds := [], alts := [], laidByText := true, laidKinds := [.data, .data, .data, .sentinel, .sentinel], laidTests := true, laidLooks := .later }
def WalRawCardSaid : Prop := Claim7.holds Tryz.pinned (.plain (OpenSpec.ofChange walRawSpec)) walRawCard

/-- THE TIED CARD OF 'quilletlaw06.WalOpens'. -/
def walOpensCard : Claim7 := { stood := { row := walOpensRow, standIns := [], harness := (true, "01a0e7f98a369a5fe52ea47ddd57beb03e3bdc53059ef298e479e154f8e62bf7"), looks := true }, kinds := [], alts := [], laidByText := true, laidKinds := [.data, .data, .data, .sentinel, .sentinel], laidTests := true, laidLooks := .later }
def WalOpensCardSaid : Prop := Claim7.holds Tryz.pinned (.plain (OpenSpec.ofChange walOpensSpec)) walOpensCard

/-- THE TIED CARD OF 'quilletlaw06.WalRuns'. -/
def walRunsCard : Claim7 := { stood := { row := walRunsRow, standIns := [], harness := (true, "01a0e7f98a369a5fe52ea47ddd57beb03e3bdc53059ef298e479e154f8e62bf7"), looks := true }, kinds := [], alts := [], laidByText := true, laidKinds := [.data, .data, .data, .sentinel, .sentinel], laidTests := true, laidLooks := .later }
def WalRunsCardSaid : Prop := Claim7.holds Tryz.pinned (.plain (OpenSpec.ofChange walRunsSpec)) walRunsCard

/-- THE TIED CARD OF 'quilletlaw06.WalGaps'. -/
def walGapsCard : Claim7 := { stood := { row := walGapsRow, standIns := [], harness := (true, "01a0e7f98a369a5fe52ea47ddd57beb03e3bdc53059ef298e479e154f8e62bf7"), looks := true }, kinds := [], alts := [], laidByText := true, laidKinds := [.data, .data, .data, .sentinel, .sentinel], laidTests := true, laidLooks := .later }
def WalGapsCardSaid : Prop := Claim7.holds Tryz.pinned (.plain (OpenSpec.ofChange walGapsSpec)) walGapsCard

/-- THE TIED CARD OF 'quilletlaw06.WalKeeps'. -/
def walKeepsCard : Claim7 := { stood := { row := walKeepsRow, standIns := [], harness := (true, "01a0e7f98a369a5fe52ea47ddd57beb03e3bdc53059ef298e479e154f8e62bf7"), looks := true }, kinds := [], alts := [], laidByText := true, laidKinds := [.data, .data, .data, .sentinel, .sentinel], laidTests := true, laidLooks := .later }
def WalKeepsCardSaid : Prop := Claim7.holds Tryz.pinned (.plain (OpenSpec.ofChange walKeepsSpec)) walKeepsCard

/-- THE TIED CARD OF 'quilletlaw06.WalDrops'. -/
def walDropsCard : Claim7 := { stood := { row := walDropsRow, standIns := [], harness := (true, "01a0e7f98a369a5fe52ea47ddd57beb03e3bdc53059ef298e479e154f8e62bf7"), looks := true }, kinds := [], alts := [], laidByText := true, laidKinds := [.data, .data, .data, .sentinel, .sentinel], laidTests := true, laidLooks := .later }
def WalDropsCardSaid : Prop := Claim7.holds Tryz.pinned (.plain (OpenSpec.ofChange walDropsSpec)) walDropsCard

/-- THE TIED CARD OF 'quilletlaw06.WalPlays'. -/
def walPlaysCard : Claim7 := { stood := { row := walPlaysRow, standIns := [], harness := (true, "01a0e7f98a369a5fe52ea47ddd57beb03e3bdc53059ef298e479e154f8e62bf7"), looks := true }, kinds := [], alts := [], laidByText := true, laidKinds := [.data, .data, .data, .sentinel, .sentinel], laidTests := true, laidLooks := .later }
def WalPlaysCardSaid : Prop := Claim7.holds Tryz.pinned (.plain (OpenSpec.ofChange walPlaysSpec)) walPlaysCard

/-- THE SECOND FORM's CARD OF 'quilletlaw06.WalRaw'. -/
def walRawUptoCard : Claim7 := { stood := { row := walRawUptoRow, standIns := [], harness := (true, "01a0e7f98a369a5fe52ea47ddd57beb03e3bdc53059ef298e479e154f8e62bf7"), looks := true }, kinds := [], alts := [], laidByText := true, laidKinds := [.data, .data, .data, .sentinel, .sentinel], laidTests := true, laidLooks := .later }
def WalRawUptoCardSaid : Prop := Claim7.holds Tryz.pinned (.plain (OpenSpec.upto walRawSpec)) walRawUptoCard

/-- THE SECOND FORM's CARD OF 'quilletlaw06.WalOpens'. -/
def walOpensUptoCard : Claim7 := { stood := { row := walOpensUptoRow, standIns := [], harness := (true, "01a0e7f98a369a5fe52ea47ddd57beb03e3bdc53059ef298e479e154f8e62bf7"), looks := true }, kinds := [], alts := [], laidByText := true, laidKinds := [.data, .data, .data, .sentinel, .sentinel], laidTests := true, laidLooks := .later }
def WalOpensUptoCardSaid : Prop := Claim7.holds Tryz.pinned (.plain (OpenSpec.upto walOpensSpec)) walOpensUptoCard

/-- THE SECOND FORM's CARD OF 'quilletlaw06.WalRuns'. -/
def walRunsUptoCard : Claim7 := { stood := { row := walRunsUptoRow, standIns := [], harness := (true, "01a0e7f98a369a5fe52ea47ddd57beb03e3bdc53059ef298e479e154f8e62bf7"), looks := true }, kinds := [], alts := [], laidByText := true, laidKinds := [.data, .data, .data, .sentinel, .sentinel], laidTests := true, laidLooks := .later }
def WalRunsUptoCardSaid : Prop := Claim7.holds Tryz.pinned (.plain (OpenSpec.upto walRunsSpec)) walRunsUptoCard

/-- THE SECOND FORM's CARD OF 'quilletlaw06.WalGaps'. -/
def walGapsUptoCard : Claim7 := { stood := { row := walGapsUptoRow, standIns := [], harness := (true, "01a0e7f98a369a5fe52ea47ddd57beb03e3bdc53059ef298e479e154f8e62bf7"), looks := true }, kinds := [], alts := [], laidByText := true, laidKinds := [.data, .data, .data, .sentinel, .sentinel], laidTests := true, laidLooks := .later }
def WalGapsUptoCardSaid : Prop := Claim7.holds Tryz.pinned (.plain (OpenSpec.upto walGapsSpec)) walGapsUptoCard

/-- THE SECOND FORM's CARD OF 'quilletlaw06.WalKeeps'. -/
def walKeepsUptoCard : Claim7 := { stood := { row := walKeepsUptoRow, standIns := [], harness := (true, "01a0e7f98a369a5fe52ea47ddd57beb03e3bdc53059ef298e479e154f8e62bf7"), looks := true }, kinds := [], alts := [], laidByText := true, laidKinds := [.data, .data, .data, .sentinel, .sentinel], laidTests := true, laidLooks := .later }
def WalKeepsUptoCardSaid : Prop := Claim7.holds Tryz.pinned (.plain (OpenSpec.upto walKeepsSpec)) walKeepsUptoCard

/-- THE SECOND FORM's CARD OF 'quilletlaw06.WalDrops'. -/
def walDropsUptoCard : Claim7 := { stood := { row := walDropsUptoRow, standIns := [], harness := (true, "01a0e7f98a369a5fe52ea47ddd57beb03e3bdc53059ef298e479e154f8e62bf7"), looks := true }, kinds := [], alts := [], laidByText := true, laidKinds := [.data, .data, .data, .sentinel, .sentinel], laidTests := true, laidLooks := .later }
def WalDropsUptoCardSaid : Prop := Claim7.holds Tryz.pinned (.plain (OpenSpec.upto walDropsSpec)) walDropsUptoCard

/-- THE SECOND FORM's CARD OF 'quilletlaw06.WalPlays'. -/
def walPlaysUptoCard : Claim7 := { stood := { row := walPlaysUptoRow, standIns := [], harness := (true, "01a0e7f98a369a5fe52ea47ddd57beb03e3bdc53059ef298e479e154f8e62bf7"), looks := true }, kinds := [], alts := [], laidByText := true, laidKinds := [.data, .data, .data, .sentinel, .sentinel], laidTests := true, laidLooks := .later }
def WalPlaysUptoCardSaid : Prop := Claim7.holds Tryz.pinned (.plain (OpenSpec.upto walPlaysSpec)) walPlaysUptoCard
end Rows
end Go.Proofs.YtifgajinfcihmaaGreatDoor
