/-
  DERIVED. GIVEN WITH THE SEED: THE CARDS: each row of YtkfceeaokfdmfaaGreatDoorRows.lean that lists a variable, with what it lists TIED to the program's text (the seventh form; the later family's looks); each row that meets fmt, with fmt's text TOLD by the authors' own Lean function (tested against real Go, not proved from fmt's source: count such statements apart). THE CARD IS WHAT COUNTS. Prove the row's statement (the work); the ties are given (YtkfceeaokfdmfaaGreatDoorTie.lean); close each card by the builder's one call (the guide's Derived/Test/ToyasCard.lean, 'card_holds'). Laid BY PROGRAM, IN A SANDBOX (cutbox-door.mjs). By AI agents, Wed Nov 11 2026. No macro, syntax, notation, axiom, sorry.
-/
import Derived.Test.YtkfceeaokfdmfaaGreatDoorRows
import GoSem.ClaimSeven
namespace Go.Proofs.YtkfceeaokfdmfaaGreatDoor
namespace Rows

/-- THE TIED CARD OF 'cupolalaw21.QueuePlays'. -/
def queuePlaysCard : Claim7 := { stood := { row := queuePlaysRow, standIns := [], harness := (true, "1eb33533f77c8f1ff7d7d631189701dbd91f1a78ef0c7da8a882294a1c0c3568"), looks := true }, kinds := [], alts := [], laidByText := true, laidKinds := [.data, .data, .data, .data, .sentinel, .sentinel, .pinned], laidTests := true, laidLooks := .later }
def QueuePlaysCardSaid : Prop := Claim7.holds Tryz.pinned (.plain (OpenSpec.ofChange queuePlaysSpec)) queuePlaysCard

/-- THE TIED CARD OF 'cupolalaw21.QueueOwn'. -/
def queueOwnCard : Claim7 := { stood := { row := queueOwnRow, standIns := [], harness := (true, "1eb33533f77c8f1ff7d7d631189701dbd91f1a78ef0c7da8a882294a1c0c3568"), looks := true }, kinds := [], alts := [], laidByText := true, laidKinds := [.data, .data, .data, .data, .sentinel, .sentinel, .pinned], laidTests := true, laidLooks := .later }
def QueueOwnCardSaid : Prop := Claim7.holds Tryz.pinned (.plain (OpenSpec.ofChange queueOwnSpec)) queueOwnCard

/-- THE TIED CARD OF 'cupolalaw21.QueueTwice'. -/
def queueTwiceCard : Claim7 := { stood := { row := queueTwiceRow, standIns := [], harness := (true, "1eb33533f77c8f1ff7d7d631189701dbd91f1a78ef0c7da8a882294a1c0c3568"), looks := true }, kinds := [], alts := [], laidByText := true, laidKinds := [.data, .data, .data, .data, .sentinel, .sentinel, .pinned], laidTests := true, laidLooks := .later }
def QueueTwiceCardSaid : Prop := Claim7.holds Tryz.pinned (.plain (OpenSpec.ofChange queueTwiceSpec)) queueTwiceCard

/-- THE SECOND FORM's CARD OF 'cupolalaw21.QueuePlays'. -/
def queuePlaysUptoCard : Claim7 := { stood := { row := queuePlaysUptoRow, standIns := [], harness := (true, "1eb33533f77c8f1ff7d7d631189701dbd91f1a78ef0c7da8a882294a1c0c3568"), looks := true }, kinds := [], alts := [], laidByText := true, laidKinds := [.data, .data, .data, .data, .sentinel, .sentinel, .pinned], laidTests := true, laidLooks := .later }
def QueuePlaysUptoCardSaid : Prop := Claim7.holds Tryz.pinned (.plain (OpenSpec.upto queuePlaysSpec)) queuePlaysUptoCard

/-- THE SECOND FORM's CARD OF 'cupolalaw21.QueueOwn'. -/
def queueOwnUptoCard : Claim7 := { stood := { row := queueOwnUptoRow, standIns := [], harness := (true, "1eb33533f77c8f1ff7d7d631189701dbd91f1a78ef0c7da8a882294a1c0c3568"), looks := true }, kinds := [], alts := [], laidByText := true, laidKinds := [.data, .data, .data, .data, .sentinel, .sentinel, .pinned], laidTests := true, laidLooks := .later }
def QueueOwnUptoCardSaid : Prop := Claim7.holds Tryz.pinned (.plain (OpenSpec.upto queueOwnSpec)) queueOwnUptoCard

/-- THE SECOND FORM's CARD OF 'cupolalaw21.QueueTwice'. -/
def queueTwiceUptoCard : Claim7 := { stood := { row := queueTwiceUptoRow, standIns := [], harness := (true, "1eb33533f77c8f1ff7d7d631189701dbd91f1a78ef0c7da8a882294a1c0c3568"), looks := true }, kinds := [], alts := [], laidByText := true, laidKinds := [.data, .data, .data, .data, .sentinel, .sentinel, .pinned], laidTests := true, laidLooks := .later }
def QueueTwiceUptoCardSaid : Prop := Claim7.holds Tryz.pinned (.plain (OpenSpec.upto queueTwiceSpec)) queueTwiceUptoCard
end Rows
end Go.Proofs.YtkfceeaokfdmfaaGreatDoor
