/-
  DERIVED. GIVEN WITH THE SEED: THE CARDS: each row of YtcepbgoefnfnmaaGreatDoorRows.lean that lists a variable, with what it lists TIED to the program's text (the seventh form; the later family's looks); each row that meets fmt, with fmt's text TOLD by the authors' own Lean function (tested against real Go, not proved from fmt's source: count such statements apart). THE CARD IS WHAT COUNTS. Prove the row's statement (the work); the ties are given (YtcepbgoefnfnmaaGreatDoorTie.lean); close each card by the builder's one call (the guide's Derived/Test/ToyasCard.lean, 'card_holds'). Laid BY PROGRAM, IN A SANDBOX (cutbox-door.mjs). By AI agents, Wed Nov 11 2026. No macro, syntax, notation, axiom, sorry.
-/
import Derived.Test.YtcepbgoefnfnmaaGreatDoorRows
import GoSem.ClaimSeven
namespace Go.Proofs.YtcepbgoefnfnmaaGreatDoor
namespace Rows

/-- THE TIED CARD OF 'vivariumlaw15.RenderLooks'. -/
def renderLooksCard : Claim7 := { stood := { row := renderLooksRow, standIns := [], harness := (true, "d9b1b2a1d16ad7710a83a4e0f461f760c51ddb8303a45a50c125305849f9ca41"), looks := false }, kinds := [], alts := [], laidByText := true, laidKinds := [.data, .data, .data, .data, .pinned], laidTests := true, laidLooks := .later }
def RenderLooksCardSaid : Prop := Claim7.holds Tryz.pinned (.plain (OpenSpec.ofChange renderLooksSpec)) renderLooksCard

/-- THE TIED CARD OF 'vivariumlaw15.RenderWords'. -/
def renderWordsCard : Claim7 := { stood := { row := renderWordsRow, standIns := [], harness := (true, "d9b1b2a1d16ad7710a83a4e0f461f760c51ddb8303a45a50c125305849f9ca41"), looks := false }, kinds := [], alts := [], laidByText := true, laidKinds := [.data, .data, .data, .data, .pinned], laidTests := true, laidLooks := .later }
def RenderWordsCardSaid : Prop := Claim7.holds Tryz.pinned (.plain (OpenSpec.ofChange renderWordsSpec)) renderWordsCard

/-- THE TIED CARD OF 'vivariumlaw15.RenderLong'. -/
def renderLongCard : Claim7 := { stood := { row := renderLongRow, standIns := [], harness := (true, "d9b1b2a1d16ad7710a83a4e0f461f760c51ddb8303a45a50c125305849f9ca41"), looks := false }, kinds := [], alts := [], laidByText := true, laidKinds := [.data, .data, .data, .data, .pinned], laidTests := true, laidLooks := .later }
def RenderLongCardSaid : Prop := Claim7.holds Tryz.pinned (.plain (OpenSpec.ofChange renderLongSpec)) renderLongCard

/-- THE TIED CARD OF 'vivariumlaw15.RenderRound'. -/
def renderRoundCard : Claim7 := { stood := { row := renderRoundRow, standIns := [], harness := (true, "d9b1b2a1d16ad7710a83a4e0f461f760c51ddb8303a45a50c125305849f9ca41"), looks := false }, kinds := [], alts := [], laidByText := true, laidKinds := [.data, .data, .data, .data, .pinned], laidTests := true, laidLooks := .later }
def RenderRoundCardSaid : Prop := Claim7.holds Tryz.pinned (.plain (OpenSpec.ofChange renderRoundSpec)) renderRoundCard

/-- THE TIED CARD OF 'vivariumlaw15.RenderParts'. -/
def renderPartsCard : Claim7 := { stood := { row := renderPartsRow, standIns := [], harness := (true, "d9b1b2a1d16ad7710a83a4e0f461f760c51ddb8303a45a50c125305849f9ca41"), looks := false }, kinds := [], alts := [], laidByText := true, laidKinds := [.data, .data, .data, .data, .pinned], laidTests := true, laidLooks := .later }
def RenderPartsCardSaid : Prop := Claim7.holds Tryz.pinned (.plain (OpenSpec.ofChange renderPartsSpec)) renderPartsCard

/-- THE SECOND FORM's CARD OF 'vivariumlaw15.RenderLooks'. -/
def renderLooksUptoCard : Claim7 := { stood := { row := renderLooksUptoRow, standIns := [], harness := (true, "d9b1b2a1d16ad7710a83a4e0f461f760c51ddb8303a45a50c125305849f9ca41"), looks := false }, kinds := [], alts := [], laidByText := true, laidKinds := [.data, .data, .data, .data, .pinned], laidTests := true, laidLooks := .later }
def RenderLooksUptoCardSaid : Prop := Claim7.holds Tryz.pinned (.plain (OpenSpec.upto renderLooksSpec)) renderLooksUptoCard

/-- THE SECOND FORM's CARD OF 'vivariumlaw15.RenderWords'. -/
def renderWordsUptoCard : Claim7 := { stood := { row := renderWordsUptoRow, standIns := [], harness := (true, "d9b1b2a1d16ad7710a83a4e0f461f760c51ddb8303a45a50c125305849f9ca41"), looks := false }, kinds := [], alts := [], laidByText := true, laidKinds := [.data, .data, .data, .data, .pinned], laidTests := true, laidLooks := .later }
def RenderWordsUptoCardSaid : Prop := Claim7.holds Tryz.pinned (.plain (OpenSpec.upto renderWordsSpec)) renderWordsUptoCard

/-- THE SECOND FORM's CARD OF 'vivariumlaw15.RenderLong'. -/
def renderLongUptoCard : Claim7 := { stood := { row := renderLongUptoRow, standIns := [], harness := (true, "d9b1b2a1d16ad7710a83a4e0f461f760c51ddb8303a45a50c125305849f9ca41"), looks := false }, kinds := [], alts := [], laidByText := true, laidKinds := [.data, .data, .data, .data, .pinned], laidTests := true, laidLooks := .later }
def RenderLongUptoCardSaid : Prop := Claim7.holds Tryz.pinned (.plain (OpenSpec.upto renderLongSpec)) renderLongUptoCard

/-- THE SECOND FORM's CARD OF 'vivariumlaw15.RenderRound'. -/
def renderRoundUptoCard : Claim7 := { stood := { row := renderRoundUptoRow, standIns := [], harness := (true, "d9b1b2a1d16ad7710a83a4e0f461f760c51ddb8303a45a50c125305849f9ca41"), looks := false }, kinds := [], alts := [], laidByText := true, laidKinds := [.data, .data, .data, .data, .pinned], laidTests := true, laidLooks := .later }
def RenderRoundUptoCardSaid : Prop := Claim7.holds Tryz.pinned (.plain (OpenSpec.upto renderRoundSpec)) renderRoundUptoCard

/-- THE SECOND FORM's CARD OF 'vivariumlaw15.RenderParts'. -/
def renderPartsUptoCard : Claim7 := { stood := { row := renderPartsUptoRow, standIns := [], harness := (true, "d9b1b2a1d16ad7710a83a4e0f461f760c51ddb8303a45a50c125305849f9ca41"), looks := false }, kinds := [], alts := [], laidByText := true, laidKinds := [.data, .data, .data, .data, .pinned], laidTests := true, laidLooks := .later }
def RenderPartsUptoCardSaid : Prop := Claim7.holds Tryz.pinned (.plain (OpenSpec.upto renderPartsSpec)) renderPartsUptoCard
end Rows
end Go.Proofs.YtcepbgoefnfnmaaGreatDoor
