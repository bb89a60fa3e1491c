/-
  DERIVED. GIVEN WITH THE SEED: THE CARDS: each row of YtjfmbeinhhdapaaGreatDoorRows.lean that lists a variable, with what it lists TIED to the program's text (the seventh form; the later family's looks); each row that meets fmt, with fmt's text TOLD by the authors' own Lean function (tested against real Go, not proved from fmt's source: count such statements apart). THE CARD IS WHAT COUNTS. Prove the row's statement (the work); the ties are given (YtjfmbeinhhdapaaGreatDoorTie.lean); close each card by the builder's one call (the guide's Derived/Test/ToyasCard.lean, 'card_holds'). Laid BY PROGRAM, IN A SANDBOX (cutbox-door.mjs). By AI agents, Wed Nov 11 2026. No macro, syntax, notation, axiom, sorry.
-/
import Derived.Test.YtjfmbeinhhdapaaGreatDoorRows
import GoSem.ClaimSeven
namespace Go.Proofs.YtjfmbeinhhdapaaGreatDoor
namespace Rows

/-- THE TIED CARD OF 'vivariumlaw21.LinesParses'. -/
def linesParsesCard : Claim7 := { stood := { row := linesParsesRow, standIns := [], harness := (true, "02820d94b491d53b168e7dea868416746a53553cd31a3ff8709cc2ef223cba14"), looks := true }, kinds := [], alts := [], laidByText := true, laidKinds := [.pinned, .data, .sentinel, .sentinel, .data, .data, .data], laidTests := true, laidLooks := .later }
def LinesParsesCardSaid : Prop := Claim7.holds Tryz.pinned (.plain (OpenSpec.ofChange linesParsesSpec)) linesParsesCard

/-- THE TIED CARD OF 'vivariumlaw21.LinesLong'. -/
def linesLongCard : Claim7 := { stood := { row := linesLongRow, standIns := [], harness := (true, "02820d94b491d53b168e7dea868416746a53553cd31a3ff8709cc2ef223cba14"), looks := true }, kinds := [], alts := [], laidByText := true, laidKinds := [.pinned, .data, .sentinel, .sentinel, .data, .data, .data], laidTests := true, laidLooks := .later }
def LinesLongCardSaid : Prop := Claim7.holds Tryz.pinned (.plain (OpenSpec.ofChange linesLongSpec)) linesLongCard

/-- THE TIED CARD OF 'vivariumlaw21.LinesShows'. -/
def linesShowsCard : Claim7 := { stood := { row := linesShowsRow, standIns := [], harness := (true, "02820d94b491d53b168e7dea868416746a53553cd31a3ff8709cc2ef223cba14"), looks := true }, kinds := [], alts := [], laidByText := true, laidKinds := [.data, .data, .data, .pinned, .data, .sentinel, .sentinel], laidTests := true, laidLooks := .later }
def LinesShowsCardSaid : Prop := Claim7.holds Tryz.pinned (.plain (OpenSpec.ofChange linesShowsSpec)) linesShowsCard

/-- THE TIED CARD OF 'vivariumlaw21.LinesRemarks'. -/
def linesRemarksCard : Claim7 := { stood := { row := linesRemarksRow, standIns := [], harness := (true, "02820d94b491d53b168e7dea868416746a53553cd31a3ff8709cc2ef223cba14"), looks := true }, kinds := [], alts := [], laidByText := true, laidKinds := [.pinned, .data, .sentinel, .sentinel, .data, .data, .data], laidTests := true, laidLooks := .later }
def LinesRemarksCardSaid : Prop := Claim7.holds Tryz.pinned (.plain (OpenSpec.ofChange linesRemarksSpec)) linesRemarksCard

/-- THE TIED CARD OF 'vivariumlaw21.LinesPrints'. -/
def linesPrintsCard : Claim7 := { stood := { row := linesPrintsRow, standIns := [], harness := (true, "02820d94b491d53b168e7dea868416746a53553cd31a3ff8709cc2ef223cba14"), looks := true }, kinds := [], alts := [], laidByText := true, laidKinds := [.data, .data, .data, .pinned, .data, .sentinel, .sentinel], laidTests := true, laidLooks := .later }
def LinesPrintsCardSaid : Prop := Claim7.holds Tryz.pinned (.plain (OpenSpec.ofChange linesPrintsSpec)) linesPrintsCard

/-- THE SECOND FORM's CARD OF 'vivariumlaw21.LinesParses'. -/
def linesParsesUptoCard : Claim7 := { stood := { row := linesParsesUptoRow, standIns := [], harness := (true, "02820d94b491d53b168e7dea868416746a53553cd31a3ff8709cc2ef223cba14"), looks := true }, kinds := [], alts := [], laidByText := true, laidKinds := [.pinned, .data, .sentinel, .sentinel, .data, .data, .data], laidTests := true, laidLooks := .later }
def LinesParsesUptoCardSaid : Prop := Claim7.holds Tryz.pinned (.plain (OpenSpec.upto linesParsesSpec)) linesParsesUptoCard

/-- THE SECOND FORM's CARD OF 'vivariumlaw21.LinesLong'. -/
def linesLongUptoCard : Claim7 := { stood := { row := linesLongUptoRow, standIns := [], harness := (true, "02820d94b491d53b168e7dea868416746a53553cd31a3ff8709cc2ef223cba14"), looks := true }, kinds := [], alts := [], laidByText := true, laidKinds := [.pinned, .data, .sentinel, .sentinel, .data, .data, .data], laidTests := true, laidLooks := .later }
def LinesLongUptoCardSaid : Prop := Claim7.holds Tryz.pinned (.plain (OpenSpec.upto linesLongSpec)) linesLongUptoCard

/-- THE SECOND FORM's CARD OF 'vivariumlaw21.LinesShows'. -/
def linesShowsUptoCard : Claim7 := { stood := { row := linesShowsUptoRow, standIns := [], harness := (true, "02820d94b491d53b168e7dea868416746a53553cd31a3ff8709cc2ef223cba14"), looks := true }, kinds := [], alts := [], laidByText := true, laidKinds := [.data, .data, .data, .pinned, .data, .sentinel, .sentinel], laidTests := true, laidLooks := .later }
def LinesShowsUptoCardSaid : Prop := Claim7.holds Tryz.pinned (.plain (OpenSpec.upto linesShowsSpec)) linesShowsUptoCard

/-- THE SECOND FORM's CARD OF 'vivariumlaw21.LinesRemarks'. -/
def linesRemarksUptoCard : Claim7 := { stood := { row := linesRemarksUptoRow, standIns := [], harness := (true, "02820d94b491d53b168e7dea868416746a53553cd31a3ff8709cc2ef223cba14"), looks := true }, kinds := [], alts := [], laidByText := true, laidKinds := [.pinned, .data, .sentinel, .sentinel, .data, .data, .data], laidTests := true, laidLooks := .later }
def LinesRemarksUptoCardSaid : Prop := Claim7.holds Tryz.pinned (.plain (OpenSpec.upto linesRemarksSpec)) linesRemarksUptoCard

/-- THE SECOND FORM's CARD OF 'vivariumlaw21.LinesPrints'. -/
def linesPrintsUptoCard : Claim7 := { stood := { row := linesPrintsUptoRow, standIns := [], harness := (true, "02820d94b491d53b168e7dea868416746a53553cd31a3ff8709cc2ef223cba14"), looks := true }, kinds := [], alts := [], laidByText := true, laidKinds := [.data, .data, .data, .pinned, .data, .sentinel, .sentinel], laidTests := true, laidLooks := .later }
def LinesPrintsUptoCardSaid : Prop := Claim7.holds Tryz.pinned (.plain (OpenSpec.upto linesPrintsSpec)) linesPrintsUptoCard
end Rows
end Go.Proofs.YtjfmbeinhhdapaaGreatDoor
