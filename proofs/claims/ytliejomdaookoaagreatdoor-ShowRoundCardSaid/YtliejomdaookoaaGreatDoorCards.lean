/-
  DERIVED. GIVEN WITH THE SEED: THE CARDS: each row of YtliejomdaookoaaGreatDoorRows.lean that lists a variable, with what it lists TIED to the program's text (the seventh form; the later family's looks); each row that meets fmt, with fmt's text TOLD by the authors' own Lean function (tested against real Go, not proved from fmt's source: count such statements apart). THE CARD IS WHAT COUNTS. Prove the row's statement (the work); the ties are given (YtliejomdaookoaaGreatDoorTie.lean); close each card by the builder's one call (the guide's Derived/Test/ToyasCard.lean, 'card_holds'). Laid BY PROGRAM, IN A SANDBOX (cutbox-door.mjs). By AI agents, Wed Nov 11 2026. No macro, syntax, notation, axiom, sorry.
-/
import Derived.Test.YtliejomdaookoaaGreatDoorRows
import GoSem.ClaimSeven
namespace Go.Proofs.YtliejomdaookoaaGreatDoor
namespace Rows

/-- THE TIED CARD OF 'vivariumlaw08.ShowMethods'. -/
def showMethodsCard : Claim7 := { stood := { row := showMethodsRow, standIns := [], harness := (true, "f792231021fc3ed74947b46c2d5db0e919859c610e5f68a48338efb6f64eab9b"), looks := false }, kinds := [], alts := [], laidByText := true, laidKinds := [.data, .data, .data, .data, .pinned], laidTests := true, laidLooks := .later }
def ShowMethodsCardSaid : Prop := Claim7.holds Tryz.pinned (.plain (OpenSpec.ofChange showMethodsSpec)) showMethodsCard

/-- THE TIED CARD OF 'vivariumlaw08.ShowDoits'. -/
def showDoitsCard : Claim7 := { stood := { row := showDoitsRow, standIns := [], harness := (true, "f792231021fc3ed74947b46c2d5db0e919859c610e5f68a48338efb6f64eab9b"), looks := false }, kinds := [], alts := [], laidByText := true, laidKinds := [.data, .data, .data, .data, .pinned], laidTests := true, laidLooks := .later }
def ShowDoitsCardSaid : Prop := Claim7.holds Tryz.pinned (.plain (OpenSpec.ofChange showDoitsSpec)) showDoitsCard

/-- THE TIED CARD OF 'vivariumlaw08.ShowRound'. -/
def showRoundCard : Claim7 := { stood := { row := showRoundRow, standIns := [], harness := (true, "f792231021fc3ed74947b46c2d5db0e919859c610e5f68a48338efb6f64eab9b"), looks := false }, kinds := [], alts := [], laidByText := true, laidKinds := [.data, .data, .data, .data, .pinned], laidTests := true, laidLooks := .later }
def ShowRoundCardSaid : Prop := Claim7.holds Tryz.pinned (.plain (OpenSpec.ofChange showRoundSpec)) showRoundCard

/-- THE TIED CARD OF 'vivariumlaw08.ShowAgain'. -/
def showAgainCard : Claim7 := { stood := { row := showAgainRow, standIns := [], harness := (true, "f792231021fc3ed74947b46c2d5db0e919859c610e5f68a48338efb6f64eab9b"), looks := false }, kinds := [], alts := [], laidByText := true, laidKinds := [.data, .data, .data, .data, .pinned], laidTests := true, laidLooks := .later }
def ShowAgainCardSaid : Prop := Claim7.holds Tryz.pinned (.plain (OpenSpec.ofChange showAgainSpec)) showAgainCard

/-- THE TIED CARD OF 'vivariumlaw08.ShowApart'. -/
def showApartCard : Claim7 := { stood := { row := showApartRow, standIns := [], harness := (true, "f792231021fc3ed74947b46c2d5db0e919859c610e5f68a48338efb6f64eab9b"), looks := false }, kinds := [], alts := [], laidByText := true, laidKinds := [.data, .data, .data, .data, .pinned], laidTests := true, laidLooks := .later }
def ShowApartCardSaid : Prop := Claim7.holds Tryz.pinned (.plain (OpenSpec.ofChange showApartSpec)) showApartCard

/-- THE TIED CARD OF 'vivariumlaw08.ShowLike'. -/
def showLikeCard : Claim7 := { stood := { row := showLikeRow, standIns := [], harness := (true, "f792231021fc3ed74947b46c2d5db0e919859c610e5f68a48338efb6f64eab9b"), looks := false }, kinds := [], alts := [], laidByText := true, laidKinds := [.data, .data, .data, .data, .pinned], laidTests := true, laidLooks := .later }
def ShowLikeCardSaid : Prop := Claim7.holds Tryz.pinned (.plain (OpenSpec.ofChange showLikeSpec)) showLikeCard

/-- THE SECOND FORM's CARD OF 'vivariumlaw08.ShowMethods'. -/
def showMethodsUptoCard : Claim7 := { stood := { row := showMethodsUptoRow, standIns := [], harness := (true, "f792231021fc3ed74947b46c2d5db0e919859c610e5f68a48338efb6f64eab9b"), looks := false }, kinds := [], alts := [], laidByText := true, laidKinds := [.data, .data, .data, .data, .pinned], laidTests := true, laidLooks := .later }
def ShowMethodsUptoCardSaid : Prop := Claim7.holds Tryz.pinned (.plain (OpenSpec.upto showMethodsSpec)) showMethodsUptoCard

/-- THE SECOND FORM's CARD OF 'vivariumlaw08.ShowDoits'. -/
def showDoitsUptoCard : Claim7 := { stood := { row := showDoitsUptoRow, standIns := [], harness := (true, "f792231021fc3ed74947b46c2d5db0e919859c610e5f68a48338efb6f64eab9b"), looks := false }, kinds := [], alts := [], laidByText := true, laidKinds := [.data, .data, .data, .data, .pinned], laidTests := true, laidLooks := .later }
def ShowDoitsUptoCardSaid : Prop := Claim7.holds Tryz.pinned (.plain (OpenSpec.upto showDoitsSpec)) showDoitsUptoCard

/-- THE SECOND FORM's CARD OF 'vivariumlaw08.ShowRound'. -/
def showRoundUptoCard : Claim7 := { stood := { row := showRoundUptoRow, standIns := [], harness := (true, "f792231021fc3ed74947b46c2d5db0e919859c610e5f68a48338efb6f64eab9b"), looks := false }, kinds := [], alts := [], laidByText := true, laidKinds := [.data, .data, .data, .data, .pinned], laidTests := true, laidLooks := .later }
def ShowRoundUptoCardSaid : Prop := Claim7.holds Tryz.pinned (.plain (OpenSpec.upto showRoundSpec)) showRoundUptoCard

/-- THE SECOND FORM's CARD OF 'vivariumlaw08.ShowAgain'. -/
def showAgainUptoCard : Claim7 := { stood := { row := showAgainUptoRow, standIns := [], harness := (true, "f792231021fc3ed74947b46c2d5db0e919859c610e5f68a48338efb6f64eab9b"), looks := false }, kinds := [], alts := [], laidByText := true, laidKinds := [.data, .data, .data, .data, .pinned], laidTests := true, laidLooks := .later }
def ShowAgainUptoCardSaid : Prop := Claim7.holds Tryz.pinned (.plain (OpenSpec.upto showAgainSpec)) showAgainUptoCard

/-- THE SECOND FORM's CARD OF 'vivariumlaw08.ShowApart'. -/
def showApartUptoCard : Claim7 := { stood := { row := showApartUptoRow, standIns := [], harness := (true, "f792231021fc3ed74947b46c2d5db0e919859c610e5f68a48338efb6f64eab9b"), looks := false }, kinds := [], alts := [], laidByText := true, laidKinds := [.data, .data, .data, .data, .pinned], laidTests := true, laidLooks := .later }
def ShowApartUptoCardSaid : Prop := Claim7.holds Tryz.pinned (.plain (OpenSpec.upto showApartSpec)) showApartUptoCard

/-- THE SECOND FORM's CARD OF 'vivariumlaw08.ShowLike'. -/
def showLikeUptoCard : Claim7 := { stood := { row := showLikeUptoRow, standIns := [], harness := (true, "f792231021fc3ed74947b46c2d5db0e919859c610e5f68a48338efb6f64eab9b"), looks := false }, kinds := [], alts := [], laidByText := true, laidKinds := [.data, .data, .data, .data, .pinned], laidTests := true, laidLooks := .later }
def ShowLikeUptoCardSaid : Prop := Claim7.holds Tryz.pinned (.plain (OpenSpec.upto showLikeSpec)) showLikeUptoCard
end Rows
end Go.Proofs.YtliejomdaookoaaGreatDoor
