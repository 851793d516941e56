/-
  DERIVED. GIVEN WITH THE SEED: THE CARDS: each row of YtkgjfagejnppbaaGreatDoorRows.lean that lists a variable, with what it lists TIED to the program's text (the seventh form; the later family's looks); each row that meets fmt, with fmt's text TOLD by the authors' own Lean function (tested against real Go, not proved from fmt's source: count such statements apart). THE CARD IS WHAT COUNTS. Prove the row's statement (the work); the ties are given (YtkgjfagejnppbaaGreatDoorTie.lean); close each card by the builder's one call (the guide's Derived/Test/ToyasCard.lean, 'card_holds'). Laid BY PROGRAM, IN A SANDBOX (cutbox-door.mjs). By AI agents, Wed Nov 11 2026. No macro, syntax, notation, axiom, sorry.
-/
import Derived.Test.YtkgjfagejnppbaaGreatDoorRows
import GoSem.ClaimSeven
namespace Go.Proofs.YtkgjfagejnppbaaGreatDoor
namespace Rows

/-- THE TIED CARD OF 'stonecroplaw30.CheckRow'. -/
def checkRowCard : Claim7 := { stood := { row := checkRowRow, standIns := [], harness := (true, "3dc04ea77bab5dc9d63c351cf25200c4b76f9b3adabba491a85622016d804c9c"), looks := false }, kinds := [], alts := [], laidByText := true, laidKinds := [.data, .data, .data, .data, .pinned], laidTests := true, laidLooks := .later }
def CheckRowCardSaid : Prop := Claim7.holds Tryz.pinned (.plain (OpenSpec.ofChange checkRowSpec)) checkRowCard

/-- THE TIED CARD OF 'stonecroplaw30.CheckTime'. -/
def checkTimeCard : Claim7 := { stood := { row := checkTimeRow, standIns := [], harness := (true, "3dc04ea77bab5dc9d63c351cf25200c4b76f9b3adabba491a85622016d804c9c"), looks := false }, kinds := [], alts := [], laidByText := true, laidKinds := [.data, .data, .data, .data, .pinned], laidTests := true, laidLooks := .later }
def CheckTimeCardSaid : Prop := Claim7.holds Tryz.pinned (.plain (OpenSpec.ofChange checkTimeSpec)) checkTimeCard

/-- THE TIED CARD OF 'stonecroplaw30.CheckMore'. -/
def checkMoreCard : Claim7 := { stood := { row := checkMoreRow, standIns := [], harness := (true, "3dc04ea77bab5dc9d63c351cf25200c4b76f9b3adabba491a85622016d804c9c"), looks := false }, kinds := [], alts := [], laidByText := true, laidKinds := [.data, .data, .data, .data, .pinned], laidTests := true, laidLooks := .later }
def CheckMoreCardSaid : Prop := Claim7.holds Tryz.pinned (.plain (OpenSpec.ofChange checkMoreSpec)) checkMoreCard

/-- THE SECOND FORM's CARD OF 'stonecroplaw30.CheckRow'. -/
def checkRowUptoCard : Claim7 := { stood := { row := checkRowUptoRow, standIns := [], harness := (true, "3dc04ea77bab5dc9d63c351cf25200c4b76f9b3adabba491a85622016d804c9c"), looks := false }, kinds := [], alts := [], laidByText := true, laidKinds := [.data, .data, .data, .data, .pinned], laidTests := true, laidLooks := .later }
def CheckRowUptoCardSaid : Prop := Claim7.holds Tryz.pinned (.plain (OpenSpec.upto checkRowSpec)) checkRowUptoCard

/-- THE SECOND FORM's CARD OF 'stonecroplaw30.CheckTime'. -/
def checkTimeUptoCard : Claim7 := { stood := { row := checkTimeUptoRow, standIns := [], harness := (true, "3dc04ea77bab5dc9d63c351cf25200c4b76f9b3adabba491a85622016d804c9c"), looks := false }, kinds := [], alts := [], laidByText := true, laidKinds := [.data, .data, .data, .data, .pinned], laidTests := true, laidLooks := .later }
def CheckTimeUptoCardSaid : Prop := Claim7.holds Tryz.pinned (.plain (OpenSpec.upto checkTimeSpec)) checkTimeUptoCard

/-- THE SECOND FORM's CARD OF 'stonecroplaw30.CheckMore'. -/
def checkMoreUptoCard : Claim7 := { stood := { row := checkMoreUptoRow, standIns := [], harness := (true, "3dc04ea77bab5dc9d63c351cf25200c4b76f9b3adabba491a85622016d804c9c"), looks := false }, kinds := [], alts := [], laidByText := true, laidKinds := [.data, .data, .data, .data, .pinned], laidTests := true, laidLooks := .later }
def CheckMoreUptoCardSaid : Prop := Claim7.holds Tryz.pinned (.plain (OpenSpec.upto checkMoreSpec)) checkMoreUptoCard
end Rows
end Go.Proofs.YtkgjfagejnppbaaGreatDoor
