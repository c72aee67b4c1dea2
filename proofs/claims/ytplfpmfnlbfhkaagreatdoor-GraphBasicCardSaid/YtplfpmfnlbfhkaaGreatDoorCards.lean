/-
  DERIVED. GIVEN WITH THE SEED: THE CARDS: each row of YtplfpmfnlbfhkaaGreatDoorRows.lean that lists a variable, with what it lists TIED to the program's text (the seventh form; the later family's looks); each row that meets fmt, with fmt's text TOLD by the authors' own Lean function (tested against real Go, not proved from fmt's source: count such statements apart). THE CARD IS WHAT COUNTS. Prove the row's statement (the work); the ties are given (YtplfpmfnlbfhkaaGreatDoorTie.lean); close each card by the builder's one call (the guide's Derived/Test/ToyasCard.lean, 'card_holds'). Laid BY PROGRAM, IN A SANDBOX (cutbox-door.mjs). By AI agents, Wed Nov 11 2026. No macro, syntax, notation, axiom, sorry.
-/
import Derived.Test.YtplfpmfnlbfhkaaGreatDoorRows
import GoSem.ClaimSeven
namespace Go.Proofs.YtplfpmfnlbfhkaaGreatDoor
namespace Rows

/-- THE TIED CARD OF 'azimuthlaw12.ArenaGraphs'. -/
def arenaGraphsCard : Claim7 := { stood := { row := arenaGraphsRow, standIns := [], harness := (true, "5fb212fe6ba80719fa14b2f8cb301cf8bef87efb8b6e2923c374bb4aa3be6251"), looks := true }, kinds := [], alts := [], laidByText := true, laidKinds := [.data, .data, .data], laidTests := true, laidLooks := .later }
def ArenaGraphsCardSaid : Prop := Claim7.holds Tryz.pinned (.plain (OpenSpec.ofChange arenaGraphsSpec)) arenaGraphsCard

/-- THE TIED CARD OF 'azimuthlaw12.ArenaPlays'. -/
def arenaPlaysCard : Claim7 := { stood := { row := arenaPlaysRow, standIns := [], harness := (true, "5fb212fe6ba80719fa14b2f8cb301cf8bef87efb8b6e2923c374bb4aa3be6251"), looks := true }, kinds := [], alts := [], laidByText := true, laidKinds := [.data, .data, .data], laidTests := true, laidLooks := .later }
def ArenaPlaysCardSaid : Prop := Claim7.holds Tryz.pinned (.plain (OpenSpec.ofChange arenaPlaysSpec)) arenaPlaysCard

/-- THE TIED CARD OF 'azimuthlaw20.ValueHas'. -/
def valueHasCard : Claim7 := { stood := { row := valueHasRow, standIns := [], harness := (true, "5fb212fe6ba80719fa14b2f8cb301cf8bef87efb8b6e2923c374bb4aa3be6251"), looks := true }, kinds := [], alts := [], laidByText := true, laidKinds := [.data, .data, .data], laidTests := true, laidLooks := .later }
def ValueHasCardSaid : Prop := Claim7.holds Tryz.pinned (.plain (OpenSpec.ofChange valueHasSpec)) valueHasCard

/-- THE TIED CARD OF 'azimuthlaw08.GraphSame'. -/
def graphSameCard : Claim7 := { stood := { row := graphSameRow, standIns := [], harness := (true, "5fb212fe6ba80719fa14b2f8cb301cf8bef87efb8b6e2923c374bb4aa3be6251"), looks := true }, kinds := [], alts := [], laidByText := true, laidKinds := [.data, .data, .data], laidTests := true, laidLooks := .later }
def GraphSameCardSaid : Prop := Claim7.holds Tryz.pinned (.plain (OpenSpec.ofChange graphSameSpec)) graphSameCard

/-- THE TIED CARD OF 'azimuthlaw08.GraphBasic'. -/
def graphBasicCard : Claim7 := { stood := { row := graphBasicRow, standIns := [], harness := (true, "5fb212fe6ba80719fa14b2f8cb301cf8bef87efb8b6e2923c374bb4aa3be6251"), looks := true }, kinds := [], alts := [], laidByText := true, laidKinds := [.data, .data, .data], laidTests := true, laidLooks := .later }
def GraphBasicCardSaid : Prop := Claim7.holds Tryz.pinned (.plain (OpenSpec.ofChange graphBasicSpec)) graphBasicCard

/-- THE TIED CARD OF 'azimuthlaw08.GraphTwice'. -/
def graphTwiceCard : Claim7 := { stood := { row := graphTwiceRow, standIns := [], harness := (true, "5fb212fe6ba80719fa14b2f8cb301cf8bef87efb8b6e2923c374bb4aa3be6251"), looks := true }, kinds := [], alts := [], laidByText := true, laidKinds := [.data, .data, .data], laidTests := true, laidLooks := .later }
def GraphTwiceCardSaid : Prop := Claim7.holds Tryz.pinned (.plain (OpenSpec.ofChange graphTwiceSpec)) graphTwiceCard

/-- THE TIED CARD OF 'azimuthlaw08.GraphNormal'. -/
def graphNormalCard : Claim7 := { stood := { row := graphNormalRow, standIns := [], harness := (true, "5fb212fe6ba80719fa14b2f8cb301cf8bef87efb8b6e2923c374bb4aa3be6251"), looks := true }, kinds := [], alts := [], laidByText := true, laidKinds := [.data, .data, .data], laidTests := true, laidLooks := .later }
def GraphNormalCardSaid : Prop := Claim7.holds Tryz.pinned (.plain (OpenSpec.ofChange graphNormalSpec)) graphNormalCard

/-- THE TIED CARD OF 'azimuthlaw09.BelowRecords'. -/
def belowRecordsCard : Claim7 := { stood := { row := belowRecordsRow, standIns := [], harness := (true, "5fb212fe6ba80719fa14b2f8cb301cf8bef87efb8b6e2923c374bb4aa3be6251"), looks := true }, kinds := [], alts := [], laidByText := true, laidKinds := [.data, .data, .data], laidTests := true, laidLooks := .later }
def BelowRecordsCardSaid : Prop := Claim7.holds Tryz.pinned (.plain (OpenSpec.ofChange belowRecordsSpec)) belowRecordsCard

/-- THE TIED CARD OF 'azimuthlaw09.BelowTurns'. -/
def belowTurnsCard : Claim7 := { stood := { row := belowTurnsRow, standIns := [], harness := (true, "5fb212fe6ba80719fa14b2f8cb301cf8bef87efb8b6e2923c374bb4aa3be6251"), looks := true }, kinds := [], alts := [], laidByText := true, laidKinds := [.data, .data, .data], laidTests := true, laidLooks := .later }
def BelowTurnsCardSaid : Prop := Claim7.holds Tryz.pinned (.plain (OpenSpec.ofChange belowTurnsSpec)) belowTurnsCard

/-- THE TIED CARD OF 'azimuthlaw09.BelowTells'. -/
def belowTellsCard : Claim7 := { stood := { row := belowTellsRow, standIns := [], harness := (true, "5fb212fe6ba80719fa14b2f8cb301cf8bef87efb8b6e2923c374bb4aa3be6251"), looks := true }, kinds := [], alts := [], laidByText := true, laidKinds := [.data, .data, .data], laidTests := true, laidLooks := .later }
def BelowTellsCardSaid : Prop := Claim7.holds Tryz.pinned (.plain (OpenSpec.ofChange belowTellsSpec)) belowTellsCard

/-- THE TIED CARD OF 'azimuthlaw09.BelowEnds'. -/
def belowEndsCard : Claim7 := { stood := { row := belowEndsRow, standIns := [], harness := (true, "5fb212fe6ba80719fa14b2f8cb301cf8bef87efb8b6e2923c374bb4aa3be6251"), looks := true }, kinds := [], alts := [], laidByText := true, laidKinds := [.data, .data, .data], laidTests := true, laidLooks := .later }
def BelowEndsCardSaid : Prop := Claim7.holds Tryz.pinned (.plain (OpenSpec.ofChange belowEndsSpec)) belowEndsCard

/-- THE TIED CARD OF 'azimuthlaw09.BelowTable'. -/
def belowTableCard : Claim7 := { stood := { row := belowTableRow, standIns := [], harness := (true, "5fb212fe6ba80719fa14b2f8cb301cf8bef87efb8b6e2923c374bb4aa3be6251"), looks := true }, kinds := [], alts := [], laidByText := true, laidKinds := [.data, .data, .data], laidTests := true, laidLooks := .later }
def BelowTableCardSaid : Prop := Claim7.holds Tryz.pinned (.plain (OpenSpec.ofChange belowTableSpec)) belowTableCard

/-- THE SECOND FORM's CARD OF 'azimuthlaw12.ArenaGraphs'. -/
def arenaGraphsUptoCard : Claim7 := { stood := { row := arenaGraphsUptoRow, standIns := [], harness := (true, "5fb212fe6ba80719fa14b2f8cb301cf8bef87efb8b6e2923c374bb4aa3be6251"), looks := true }, kinds := [], alts := [], laidByText := true, laidKinds := [.data, .data, .data], laidTests := true, laidLooks := .later }
def ArenaGraphsUptoCardSaid : Prop := Claim7.holds Tryz.pinned (.plain (OpenSpec.upto arenaGraphsSpec)) arenaGraphsUptoCard

/-- THE SECOND FORM's CARD OF 'azimuthlaw12.ArenaPlays'. -/
def arenaPlaysUptoCard : Claim7 := { stood := { row := arenaPlaysUptoRow, standIns := [], harness := (true, "5fb212fe6ba80719fa14b2f8cb301cf8bef87efb8b6e2923c374bb4aa3be6251"), looks := true }, kinds := [], alts := [], laidByText := true, laidKinds := [.data, .data, .data], laidTests := true, laidLooks := .later }
def ArenaPlaysUptoCardSaid : Prop := Claim7.holds Tryz.pinned (.plain (OpenSpec.upto arenaPlaysSpec)) arenaPlaysUptoCard

/-- THE SECOND FORM's CARD OF 'azimuthlaw20.ValueHas'. -/
def valueHasUptoCard : Claim7 := { stood := { row := valueHasUptoRow, standIns := [], harness := (true, "5fb212fe6ba80719fa14b2f8cb301cf8bef87efb8b6e2923c374bb4aa3be6251"), looks := true }, kinds := [], alts := [], laidByText := true, laidKinds := [.data, .data, .data], laidTests := true, laidLooks := .later }
def ValueHasUptoCardSaid : Prop := Claim7.holds Tryz.pinned (.plain (OpenSpec.upto valueHasSpec)) valueHasUptoCard

/-- THE SECOND FORM's CARD OF 'azimuthlaw08.GraphSame'. -/
def graphSameUptoCard : Claim7 := { stood := { row := graphSameUptoRow, standIns := [], harness := (true, "5fb212fe6ba80719fa14b2f8cb301cf8bef87efb8b6e2923c374bb4aa3be6251"), looks := true }, kinds := [], alts := [], laidByText := true, laidKinds := [.data, .data, .data], laidTests := true, laidLooks := .later }
def GraphSameUptoCardSaid : Prop := Claim7.holds Tryz.pinned (.plain (OpenSpec.upto graphSameSpec)) graphSameUptoCard

/-- THE SECOND FORM's CARD OF 'azimuthlaw08.GraphBasic'. -/
def graphBasicUptoCard : Claim7 := { stood := { row := graphBasicUptoRow, standIns := [], harness := (true, "5fb212fe6ba80719fa14b2f8cb301cf8bef87efb8b6e2923c374bb4aa3be6251"), looks := true }, kinds := [], alts := [], laidByText := true, laidKinds := [.data, .data, .data], laidTests := true, laidLooks := .later }
def GraphBasicUptoCardSaid : Prop := Claim7.holds Tryz.pinned (.plain (OpenSpec.upto graphBasicSpec)) graphBasicUptoCard

/-- THE SECOND FORM's CARD OF 'azimuthlaw08.GraphTwice'. -/
def graphTwiceUptoCard : Claim7 := { stood := { row := graphTwiceUptoRow, standIns := [], harness := (true, "5fb212fe6ba80719fa14b2f8cb301cf8bef87efb8b6e2923c374bb4aa3be6251"), looks := true }, kinds := [], alts := [], laidByText := true, laidKinds := [.data, .data, .data], laidTests := true, laidLooks := .later }
def GraphTwiceUptoCardSaid : Prop := Claim7.holds Tryz.pinned (.plain (OpenSpec.upto graphTwiceSpec)) graphTwiceUptoCard

/-- THE SECOND FORM's CARD OF 'azimuthlaw08.GraphNormal'. -/
def graphNormalUptoCard : Claim7 := { stood := { row := graphNormalUptoRow, standIns := [], harness := (true, "5fb212fe6ba80719fa14b2f8cb301cf8bef87efb8b6e2923c374bb4aa3be6251"), looks := true }, kinds := [], alts := [], laidByText := true, laidKinds := [.data, .data, .data], laidTests := true, laidLooks := .later }
def GraphNormalUptoCardSaid : Prop := Claim7.holds Tryz.pinned (.plain (OpenSpec.upto graphNormalSpec)) graphNormalUptoCard

/-- THE SECOND FORM's CARD OF 'azimuthlaw09.BelowRecords'. -/
def belowRecordsUptoCard : Claim7 := { stood := { row := belowRecordsUptoRow, standIns := [], harness := (true, "5fb212fe6ba80719fa14b2f8cb301cf8bef87efb8b6e2923c374bb4aa3be6251"), looks := true }, kinds := [], alts := [], laidByText := true, laidKinds := [.data, .data, .data], laidTests := true, laidLooks := .later }
def BelowRecordsUptoCardSaid : Prop := Claim7.holds Tryz.pinned (.plain (OpenSpec.upto belowRecordsSpec)) belowRecordsUptoCard

/-- THE SECOND FORM's CARD OF 'azimuthlaw09.BelowTurns'. -/
def belowTurnsUptoCard : Claim7 := { stood := { row := belowTurnsUptoRow, standIns := [], harness := (true, "5fb212fe6ba80719fa14b2f8cb301cf8bef87efb8b6e2923c374bb4aa3be6251"), looks := true }, kinds := [], alts := [], laidByText := true, laidKinds := [.data, .data, .data], laidTests := true, laidLooks := .later }
def BelowTurnsUptoCardSaid : Prop := Claim7.holds Tryz.pinned (.plain (OpenSpec.upto belowTurnsSpec)) belowTurnsUptoCard

/-- THE SECOND FORM's CARD OF 'azimuthlaw09.BelowTells'. -/
def belowTellsUptoCard : Claim7 := { stood := { row := belowTellsUptoRow, standIns := [], harness := (true, "5fb212fe6ba80719fa14b2f8cb301cf8bef87efb8b6e2923c374bb4aa3be6251"), looks := true }, kinds := [], alts := [], laidByText := true, laidKinds := [.data, .data, .data], laidTests := true, laidLooks := .later }
def BelowTellsUptoCardSaid : Prop := Claim7.holds Tryz.pinned (.plain (OpenSpec.upto belowTellsSpec)) belowTellsUptoCard

/-- THE SECOND FORM's CARD OF 'azimuthlaw09.BelowEnds'. -/
def belowEndsUptoCard : Claim7 := { stood := { row := belowEndsUptoRow, standIns := [], harness := (true, "5fb212fe6ba80719fa14b2f8cb301cf8bef87efb8b6e2923c374bb4aa3be6251"), looks := true }, kinds := [], alts := [], laidByText := true, laidKinds := [.data, .data, .data], laidTests := true, laidLooks := .later }
def BelowEndsUptoCardSaid : Prop := Claim7.holds Tryz.pinned (.plain (OpenSpec.upto belowEndsSpec)) belowEndsUptoCard

/-- THE SECOND FORM's CARD OF 'azimuthlaw09.BelowTable'. -/
def belowTableUptoCard : Claim7 := { stood := { row := belowTableUptoRow, standIns := [], harness := (true, "5fb212fe6ba80719fa14b2f8cb301cf8bef87efb8b6e2923c374bb4aa3be6251"), looks := true }, kinds := [], alts := [], laidByText := true, laidKinds := [.data, .data, .data], laidTests := true, laidLooks := .later }
def BelowTableUptoCardSaid : Prop := Claim7.holds Tryz.pinned (.plain (OpenSpec.upto belowTableSpec)) belowTableUptoCard
end Rows
end Go.Proofs.YtplfpmfnlbfhkaaGreatDoor
