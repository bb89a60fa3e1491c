/-
  DERIVED. GIVEN WITH THE SEED: THE CARDS: each row of YtfakmddlgjngnaaGreatDoorRows.lean that lists a variable, with what it lists TIED to the program's text (the seventh form; the later family's looks); each row that meets fmt, with fmt's text TOLD by the authors' own Lean function (tested against real Go, not proved from fmt's source: count such statements apart). THE CARD IS WHAT COUNTS. Prove the row's statement (the work); the ties are given (YtfakmddlgjngnaaGreatDoorTie.lean); close each card by the builder's one call (the guide's Derived/Test/ToyasCard.lean, 'card_holds'). Laid BY PROGRAM, IN A SANDBOX (cutbox-door.mjs). By AI agents, Wed Nov 11 2026. No macro, syntax, notation, axiom, sorry.
-/
import Derived.Test.YtfakmddlgjngnaaGreatDoorRows
import GoSem.ClaimSeven
namespace Go.Proofs.YtfakmddlgjngnaaGreatDoor
namespace Rows

/-- THE TIED CARD OF 'vivariumlaw17.InterpNumbers'. -/
def interpNumbersCard : Claim7 := { stood := { row := interpNumbersRow, standIns := [], harness := (true, "d8897b90254764dc82d3f586c56767f6ac90df73c92a62e604fc4d3b94a1a579"), looks := false }, kinds := [], alts := [], laidByText := true, laidKinds := [.data, .data, .data, .data, .pinned], laidTests := true, laidLooks := .later }
def InterpNumbersCardSaid : Prop := Claim7.holds Tryz.pinned (.plain (OpenSpec.ofChange interpNumbersSpec)) interpNumbersCard

/-- THE TIED CARD OF 'vivariumlaw17.InterpEnsures'. -/
def interpEnsuresCard : Claim7 := { stood := { row := interpEnsuresRow, standIns := [], harness := (true, "d8897b90254764dc82d3f586c56767f6ac90df73c92a62e604fc4d3b94a1a579"), looks := false }, kinds := [], alts := [], laidByText := true, laidKinds := [.data, .data, .data, .data, .pinned], laidTests := true, laidLooks := .later }
def InterpEnsuresCardSaid : Prop := Claim7.holds Tryz.pinned (.plain (OpenSpec.ofChange interpEnsuresSpec)) interpEnsuresCard

/-- THE TIED CARD OF 'vivariumlaw17.InterpDeep'. -/
def interpDeepCard : Claim7 := { stood := { row := interpDeepRow, standIns := [], harness := (true, "d8897b90254764dc82d3f586c56767f6ac90df73c92a62e604fc4d3b94a1a579"), looks := false }, kinds := [], alts := [], laidByText := true, laidKinds := [.data, .data, .data, .data, .pinned], laidTests := true, laidLooks := .later }
def InterpDeepCardSaid : Prop := Claim7.holds Tryz.pinned (.plain (OpenSpec.ofChange interpDeepSpec)) interpDeepCard

/-- THE SECOND FORM's CARD OF 'vivariumlaw17.InterpNumbers'. -/
def interpNumbersUptoCard : Claim7 := { stood := { row := interpNumbersUptoRow, standIns := [], harness := (true, "d8897b90254764dc82d3f586c56767f6ac90df73c92a62e604fc4d3b94a1a579"), looks := false }, kinds := [], alts := [], laidByText := true, laidKinds := [.data, .data, .data, .data, .pinned], laidTests := true, laidLooks := .later }
def InterpNumbersUptoCardSaid : Prop := Claim7.holds Tryz.pinned (.plain (OpenSpec.upto interpNumbersSpec)) interpNumbersUptoCard

/-- THE SECOND FORM's CARD OF 'vivariumlaw17.InterpEnsures'. -/
def interpEnsuresUptoCard : Claim7 := { stood := { row := interpEnsuresUptoRow, standIns := [], harness := (true, "d8897b90254764dc82d3f586c56767f6ac90df73c92a62e604fc4d3b94a1a579"), looks := false }, kinds := [], alts := [], laidByText := true, laidKinds := [.data, .data, .data, .data, .pinned], laidTests := true, laidLooks := .later }
def InterpEnsuresUptoCardSaid : Prop := Claim7.holds Tryz.pinned (.plain (OpenSpec.upto interpEnsuresSpec)) interpEnsuresUptoCard

/-- THE SECOND FORM's CARD OF 'vivariumlaw17.InterpDeep'. -/
def interpDeepUptoCard : Claim7 := { stood := { row := interpDeepUptoRow, standIns := [], harness := (true, "d8897b90254764dc82d3f586c56767f6ac90df73c92a62e604fc4d3b94a1a579"), looks := false }, kinds := [], alts := [], laidByText := true, laidKinds := [.data, .data, .data, .data, .pinned], laidTests := true, laidLooks := .later }
def InterpDeepUptoCardSaid : Prop := Claim7.holds Tryz.pinned (.plain (OpenSpec.upto interpDeepSpec)) interpDeepUptoCard
end Rows
end Go.Proofs.YtfakmddlgjngnaaGreatDoor
