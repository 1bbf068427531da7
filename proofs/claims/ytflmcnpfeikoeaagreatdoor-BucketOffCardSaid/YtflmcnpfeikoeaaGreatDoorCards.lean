/-
  DERIVED. GIVEN WITH THE SEED: THE CARDS: each row of YtflmcnpfeikoeaaGreatDoorRows.lean that lists a variable, with what it lists TIED to the program's text (the seventh form; the later family's looks); each row that meets fmt, with fmt's text TOLD by the authors' own Lean function (tested against real Go, not proved from fmt's source: count such statements apart). THE CARD IS WHAT COUNTS. Prove the row's statement (the work); the ties are given (YtflmcnpfeikoeaaGreatDoorTie.lean); close each card by the builder's one call (the guide's Derived/Test/ToyasCard.lean, 'card_holds'). Laid BY PROGRAM, IN A SANDBOX (cutbox-door.mjs). By AI agents, Wed Nov 11 2026. No macro, syntax, notation, axiom, sorry.
-/
import Derived.Test.YtflmcnpfeikoeaaGreatDoorRows
import GoSem.ClaimSeven
namespace Go.Proofs.YtflmcnpfeikoeaaGreatDoor
namespace Rows

/-- THE TIED CARD OF 'cellarerlaw09.BucketParts'. -/
def bucketPartsCard : Claim7 := { stood := { row := bucketPartsRow, standIns := [], harness := (true, "3f924fd3e99d20b6ad08f43943803b65051b3e73ab7a4689db3063d4da1ed7e8"), looks := false }, kinds := [], alts := [], laidByText := true, laidKinds := [.data, .data, .data], laidTests := true, laidLooks := .later }
def BucketPartsCardSaid : Prop := Claim7.holds Tryz.pinned (.plain (OpenSpec.ofChange bucketPartsSpec)) bucketPartsCard

/-- THE TIED CARD OF 'cellarerlaw09.BucketRoom'. -/
def bucketRoomCard : Claim7 := { stood := { row := bucketRoomRow, standIns := [], harness := (true, "3f924fd3e99d20b6ad08f43943803b65051b3e73ab7a4689db3063d4da1ed7e8"), looks := false }, kinds := [], alts := [], laidByText := true, laidKinds := [.data, .data, .data], laidTests := true, laidLooks := .later }
def BucketRoomCardSaid : Prop := Claim7.holds Tryz.pinned (.plain (OpenSpec.ofChange bucketRoomSpec)) bucketRoomCard

/-- THE TIED CARD OF 'cellarerlaw09.BucketDoes'. -/
def bucketDoesCard : Claim7 := { stood := { row := bucketDoesRow, standIns := [], harness := (true, "3f924fd3e99d20b6ad08f43943803b65051b3e73ab7a4689db3063d4da1ed7e8"), looks := false }, kinds := [], alts := [], laidByText := true, laidKinds := [.data, .data, .data], laidTests := true, laidLooks := .later }
def BucketDoesCardSaid : Prop := Claim7.holds Tryz.pinned (.plain (OpenSpec.ofChange bucketDoesSpec)) bucketDoesCard

/-- THE TIED CARD OF 'cellarerlaw09.BucketStays'. -/
def bucketStaysCard : Claim7 := { stood := { row := bucketStaysRow, standIns := [], harness := (true, "3f924fd3e99d20b6ad08f43943803b65051b3e73ab7a4689db3063d4da1ed7e8"), looks := false }, kinds := [], alts := [], laidByText := true, laidKinds := [.data, .data, .data], laidTests := true, laidLooks := .later }
def BucketStaysCardSaid : Prop := Claim7.holds Tryz.pinned (.plain (OpenSpec.ofChange bucketStaysSpec)) bucketStaysCard

/-- THE TIED CARD OF 'cellarerlaw09.BucketOff'. -/
def bucketOffCard : Claim7 := { stood := { row := bucketOffRow, standIns := [], harness := (true, "3f924fd3e99d20b6ad08f43943803b65051b3e73ab7a4689db3063d4da1ed7e8"), looks := false }, kinds := [], alts := [], laidByText := true, laidKinds := [.data, .data, .data], laidTests := true, laidLooks := .later }
def BucketOffCardSaid : Prop := Claim7.holds Tryz.pinned (.plain (OpenSpec.ofChange bucketOffSpec)) bucketOffCard

/-- THE TIED CARD OF 'cellarerlaw09.BucketTurns'. -/
def bucketTurnsCard : Claim7 := { stood := { row := bucketTurnsRow, standIns := [], harness := (true, "3f924fd3e99d20b6ad08f43943803b65051b3e73ab7a4689db3063d4da1ed7e8"), looks := false }, kinds := [], alts := [], laidByText := true, laidKinds := [.data, .data, .data], laidTests := true, laidLooks := .later }
def BucketTurnsCardSaid : Prop := Claim7.holds Tryz.pinned (.plain (OpenSpec.ofChange bucketTurnsSpec)) bucketTurnsCard

/-- THE TIED CARD OF 'cellarerlaw09.BucketKeeps'. -/
def bucketKeepsCard : Claim7 := { stood := { row := bucketKeepsRow, standIns := [], harness := (true, "3f924fd3e99d20b6ad08f43943803b65051b3e73ab7a4689db3063d4da1ed7e8"), looks := false }, kinds := [], alts := [], laidByText := true, laidKinds := [.data, .data, .data], laidTests := true, laidLooks := .later }
def BucketKeepsCardSaid : Prop := Claim7.holds Tryz.pinned (.plain (OpenSpec.ofChange bucketKeepsSpec)) bucketKeepsCard

/-- THE SECOND FORM's CARD OF 'cellarerlaw09.BucketParts'. -/
def bucketPartsUptoCard : Claim7 := { stood := { row := bucketPartsUptoRow, standIns := [], harness := (true, "3f924fd3e99d20b6ad08f43943803b65051b3e73ab7a4689db3063d4da1ed7e8"), looks := false }, kinds := [], alts := [], laidByText := true, laidKinds := [.data, .data, .data], laidTests := true, laidLooks := .later }
def BucketPartsUptoCardSaid : Prop := Claim7.holds Tryz.pinned (.plain (OpenSpec.upto bucketPartsSpec)) bucketPartsUptoCard

/-- THE SECOND FORM's CARD OF 'cellarerlaw09.BucketRoom'. -/
def bucketRoomUptoCard : Claim7 := { stood := { row := bucketRoomUptoRow, standIns := [], harness := (true, "3f924fd3e99d20b6ad08f43943803b65051b3e73ab7a4689db3063d4da1ed7e8"), looks := false }, kinds := [], alts := [], laidByText := true, laidKinds := [.data, .data, .data], laidTests := true, laidLooks := .later }
def BucketRoomUptoCardSaid : Prop := Claim7.holds Tryz.pinned (.plain (OpenSpec.upto bucketRoomSpec)) bucketRoomUptoCard

/-- THE SECOND FORM's CARD OF 'cellarerlaw09.BucketDoes'. -/
def bucketDoesUptoCard : Claim7 := { stood := { row := bucketDoesUptoRow, standIns := [], harness := (true, "3f924fd3e99d20b6ad08f43943803b65051b3e73ab7a4689db3063d4da1ed7e8"), looks := false }, kinds := [], alts := [], laidByText := true, laidKinds := [.data, .data, .data], laidTests := true, laidLooks := .later }
def BucketDoesUptoCardSaid : Prop := Claim7.holds Tryz.pinned (.plain (OpenSpec.upto bucketDoesSpec)) bucketDoesUptoCard

/-- THE SECOND FORM's CARD OF 'cellarerlaw09.BucketStays'. -/
def bucketStaysUptoCard : Claim7 := { stood := { row := bucketStaysUptoRow, standIns := [], harness := (true, "3f924fd3e99d20b6ad08f43943803b65051b3e73ab7a4689db3063d4da1ed7e8"), looks := false }, kinds := [], alts := [], laidByText := true, laidKinds := [.data, .data, .data], laidTests := true, laidLooks := .later }
def BucketStaysUptoCardSaid : Prop := Claim7.holds Tryz.pinned (.plain (OpenSpec.upto bucketStaysSpec)) bucketStaysUptoCard

/-- THE SECOND FORM's CARD OF 'cellarerlaw09.BucketOff'. -/
def bucketOffUptoCard : Claim7 := { stood := { row := bucketOffUptoRow, standIns := [], harness := (true, "3f924fd3e99d20b6ad08f43943803b65051b3e73ab7a4689db3063d4da1ed7e8"), looks := false }, kinds := [], alts := [], laidByText := true, laidKinds := [.data, .data, .data], laidTests := true, laidLooks := .later }
def BucketOffUptoCardSaid : Prop := Claim7.holds Tryz.pinned (.plain (OpenSpec.upto bucketOffSpec)) bucketOffUptoCard

/-- THE SECOND FORM's CARD OF 'cellarerlaw09.BucketTurns'. -/
def bucketTurnsUptoCard : Claim7 := { stood := { row := bucketTurnsUptoRow, standIns := [], harness := (true, "3f924fd3e99d20b6ad08f43943803b65051b3e73ab7a4689db3063d4da1ed7e8"), looks := false }, kinds := [], alts := [], laidByText := true, laidKinds := [.data, .data, .data], laidTests := true, laidLooks := .later }
def BucketTurnsUptoCardSaid : Prop := Claim7.holds Tryz.pinned (.plain (OpenSpec.upto bucketTurnsSpec)) bucketTurnsUptoCard

/-- THE SECOND FORM's CARD OF 'cellarerlaw09.BucketKeeps'. -/
def bucketKeepsUptoCard : Claim7 := { stood := { row := bucketKeepsUptoRow, standIns := [], harness := (true, "3f924fd3e99d20b6ad08f43943803b65051b3e73ab7a4689db3063d4da1ed7e8"), looks := false }, kinds := [], alts := [], laidByText := true, laidKinds := [.data, .data, .data], laidTests := true, laidLooks := .later }
def BucketKeepsUptoCardSaid : Prop := Claim7.holds Tryz.pinned (.plain (OpenSpec.upto bucketKeepsSpec)) bucketKeepsUptoCard
end Rows
end Go.Proofs.YtflmcnpfeikoeaaGreatDoor
