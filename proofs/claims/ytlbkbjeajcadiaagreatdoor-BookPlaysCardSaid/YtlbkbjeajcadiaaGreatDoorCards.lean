/-
  DERIVED. GIVEN WITH THE SEED: THE CARDS: each row of YtlbkbjeajcadiaaGreatDoorRows.lean that lists a variable, with what it lists TIED to the program's text (the seventh form; the later family's looks); each row that meets fmt, with fmt's text TOLD by the authors' own Lean function (tested against real Go, not proved from fmt's source: count such statements apart). THE CARD IS WHAT COUNTS. Prove the row's statement (the work); the ties are given (YtlbkbjeajcadiaaGreatDoorTie.lean); close each card by the builder's one call (the guide's Derived/Test/ToyasCard.lean, 'card_holds'). Laid BY PROGRAM, IN A SANDBOX (cutbox-door.mjs). By AI agents, Wed Nov 11 2026. No macro, syntax, notation, axiom, sorry.
-/
import Derived.Test.YtlbkbjeajcadiaaGreatDoorRows
import GoSem.ClaimSeven
namespace Go.Proofs.YtlbkbjeajcadiaaGreatDoor
namespace Rows

/-- THE TIED CARD OF 'stonecroplaw26.BookHangs'. -/
def bookHangsCard : Claim7 := { stood := { row := bookHangsRow, standIns := [], harness := (true, "e7556e944d07343f7fbd33d18c5a9e22dd51c808d4e5db2404a9978a64a0ea90"), looks := true }, kinds := [], alts := [], laidByText := true, laidKinds := [.data, .pinned], laidTests := true, laidLooks := .later }
def BookHangsCardSaid : Prop := Claim7.holds Tryz.pinned (.plain (OpenSpec.ofChange bookHangsSpec)) bookHangsCard

/-- THE TIED CARD OF 'stonecroplaw26.BookWalls'. -/
def bookWallsCard : Claim7 := { stood := { row := bookWallsRow, standIns := [], harness := (true, "e7556e944d07343f7fbd33d18c5a9e22dd51c808d4e5db2404a9978a64a0ea90"), looks := true }, kinds := [], alts := [], laidByText := true, laidKinds := [.data, .pinned], laidTests := true, laidLooks := .later }
def BookWallsCardSaid : Prop := Claim7.holds Tryz.pinned (.plain (OpenSpec.ofChange bookWallsSpec)) bookWallsCard

/-- THE TIED CARD OF 'stonecroplaw26.BookPlays'. -/
def bookPlaysCard : Claim7 := { stood := { row := bookPlaysRow, standIns := [], harness := (true, "e7556e944d07343f7fbd33d18c5a9e22dd51c808d4e5db2404a9978a64a0ea90"), looks := true }, kinds := [], alts := [], laidByText := true, laidKinds := [.data, .pinned], laidTests := true, laidLooks := .later }
def BookPlaysCardSaid : Prop := Claim7.holds Tryz.pinned (.plain (OpenSpec.ofChange bookPlaysSpec)) bookPlaysCard

/-- THE SECOND FORM's CARD OF 'stonecroplaw26.BookHangs'. -/
def bookHangsUptoCard : Claim7 := { stood := { row := bookHangsUptoRow, standIns := [], harness := (true, "e7556e944d07343f7fbd33d18c5a9e22dd51c808d4e5db2404a9978a64a0ea90"), looks := true }, kinds := [], alts := [], laidByText := true, laidKinds := [.data, .pinned], laidTests := true, laidLooks := .later }
def BookHangsUptoCardSaid : Prop := Claim7.holds Tryz.pinned (.plain (OpenSpec.upto bookHangsSpec)) bookHangsUptoCard

/-- THE SECOND FORM's CARD OF 'stonecroplaw26.BookWalls'. -/
def bookWallsUptoCard : Claim7 := { stood := { row := bookWallsUptoRow, standIns := [], harness := (true, "e7556e944d07343f7fbd33d18c5a9e22dd51c808d4e5db2404a9978a64a0ea90"), looks := true }, kinds := [], alts := [], laidByText := true, laidKinds := [.data, .pinned], laidTests := true, laidLooks := .later }
def BookWallsUptoCardSaid : Prop := Claim7.holds Tryz.pinned (.plain (OpenSpec.upto bookWallsSpec)) bookWallsUptoCard

/-- THE SECOND FORM's CARD OF 'stonecroplaw26.BookPlays'. -/
def bookPlaysUptoCard : Claim7 := { stood := { row := bookPlaysUptoRow, standIns := [], harness := (true, "e7556e944d07343f7fbd33d18c5a9e22dd51c808d4e5db2404a9978a64a0ea90"), looks := true }, kinds := [], alts := [], laidByText := true, laidKinds := [.data, .pinned], laidTests := true, laidLooks := .later }
def BookPlaysUptoCardSaid : Prop := Claim7.holds Tryz.pinned (.plain (OpenSpec.upto bookPlaysSpec)) bookPlaysUptoCard
end Rows
end Go.Proofs.YtlbkbjeajcadiaaGreatDoor
