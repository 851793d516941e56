/-
  DERIVED. GIVEN WITH THE SEED: THE CARDS: each row of YtndfhejfhfhbdaaGreatDoorRows.lean that lists a variable, with what it lists TIED to the program's text (the seventh form; the later family's looks); each row that meets fmt, with fmt's text TOLD by the authors' own Lean function (tested against real Go, not proved from fmt's source: count such statements apart). THE CARD IS WHAT COUNTS. Prove the row's statement (the work); the ties are given (YtndfhejfhfhbdaaGreatDoorTie.lean); close each card by the builder's one call (the guide's Derived/Test/ToyasCard.lean, 'card_holds'). Laid BY PROGRAM, IN A SANDBOX (cutbox-door.mjs). By AI agents, Wed Nov 11 2026. No macro, syntax, notation, axiom, sorry.
-/
import Derived.Test.YtndfhejfhfhbdaaGreatDoorRows
import GoSem.ClaimSeven
namespace Go.Proofs.YtndfhejfhfhbdaaGreatDoor
namespace Rows

/-- THE TIED CARD OF 'stonecroplaw19.OrderTags'. -/
def orderTagsCard : Claim7 := { stood := { row := orderTagsRow, standIns := [], harness := (true, "f4c0bd1fd78f54f56fafd58e6093d6bcc779bdf6b8602690ddb6ba0e871fedbe"), looks := false }, kinds := [], alts := [], laidByText := true, laidKinds := [.data, .pinned], laidTests := true, laidLooks := .later }
def OrderTagsCardSaid : Prop := Claim7.holds Tryz.pinned (.plain (OpenSpec.ofChange orderTagsSpec)) orderTagsCard

/-- THE TIED CARD OF 'stonecroplaw19.OrderTells'. -/
def orderTellsCard : Claim7 := { stood := { row := orderTellsRow, standIns := [], harness := (true, "f4c0bd1fd78f54f56fafd58e6093d6bcc779bdf6b8602690ddb6ba0e871fedbe"), looks := false }, kinds := [], alts := [], laidByText := true, laidKinds := [.data, .pinned], laidTests := true, laidLooks := .later }
def OrderTellsCardSaid : Prop := Claim7.holds Tryz.pinned (.plain (OpenSpec.ofChange orderTellsSpec)) orderTellsCard

/-- THE TIED CARD OF 'stonecroplaw19.OrderOne'. -/
def orderOneCard : Claim7 := { stood := { row := orderOneRow, standIns := [], harness := (true, "f4c0bd1fd78f54f56fafd58e6093d6bcc779bdf6b8602690ddb6ba0e871fedbe"), looks := false }, kinds := [], alts := [], laidByText := true, laidKinds := [.data, .pinned], laidTests := true, laidLooks := .later }
def OrderOneCardSaid : Prop := Claim7.holds Tryz.pinned (.plain (OpenSpec.ofChange orderOneSpec)) orderOneCard

/-- THE TIED CARD OF 'stonecroplaw19.OrderParts'. -/
def orderPartsCard : Claim7 := { stood := { row := orderPartsRow, standIns := [], harness := (true, "f4c0bd1fd78f54f56fafd58e6093d6bcc779bdf6b8602690ddb6ba0e871fedbe"), looks := false }, kinds := [], alts := [], laidByText := true, laidKinds := [.data, .pinned], laidTests := true, laidLooks := .later }
def OrderPartsCardSaid : Prop := Claim7.holds Tryz.pinned (.plain (OpenSpec.ofChange orderPartsSpec)) orderPartsCard

/-- THE TIED CARD OF 'stonecroplaw20.EnginePlays'. -/
def enginePlaysCard : Claim7 := { stood := { row := enginePlaysRow, standIns := [], harness := (true, "f4c0bd1fd78f54f56fafd58e6093d6bcc779bdf6b8602690ddb6ba0e871fedbe"), looks := false }, kinds := [], alts := [], laidByText := true, laidKinds := [.data, .pinned], laidTests := true, laidLooks := .later }
def EnginePlaysCardSaid : Prop := Claim7.holds Tryz.pinned (.plain (OpenSpec.ofChange enginePlaysSpec)) enginePlaysCard

/-- THE TIED CARD OF 'stonecroplaw20.EngineOnce'. -/
def engineOnceCard : Claim7 := { stood := { row := engineOnceRow, standIns := [], harness := (true, "f4c0bd1fd78f54f56fafd58e6093d6bcc779bdf6b8602690ddb6ba0e871fedbe"), looks := false }, kinds := [], alts := [], laidByText := true, laidKinds := [.data, .pinned], laidTests := true, laidLooks := .later }
def EngineOnceCardSaid : Prop := Claim7.holds Tryz.pinned (.plain (OpenSpec.ofChange engineOnceSpec)) engineOnceCard

/-- THE TIED CARD OF 'stonecroplaw20.EngineAgree'. -/
def engineAgreeCard : Claim7 := { stood := { row := engineAgreeRow, standIns := [], harness := (true, "f4c0bd1fd78f54f56fafd58e6093d6bcc779bdf6b8602690ddb6ba0e871fedbe"), looks := false }, kinds := [], alts := [], laidByText := true, laidKinds := [.data, .pinned], laidTests := true, laidLooks := .later }
def EngineAgreeCardSaid : Prop := Claim7.holds Tryz.pinned (.plain (OpenSpec.ofChange engineAgreeSpec)) engineAgreeCard

/-- THE SECOND FORM's CARD OF 'stonecroplaw19.OrderTags'. -/
def orderTagsUptoCard : Claim7 := { stood := { row := orderTagsUptoRow, standIns := [], harness := (true, "f4c0bd1fd78f54f56fafd58e6093d6bcc779bdf6b8602690ddb6ba0e871fedbe"), looks := false }, kinds := [], alts := [], laidByText := true, laidKinds := [.data, .pinned], laidTests := true, laidLooks := .later }
def OrderTagsUptoCardSaid : Prop := Claim7.holds Tryz.pinned (.plain (OpenSpec.upto orderTagsSpec)) orderTagsUptoCard

/-- THE SECOND FORM's CARD OF 'stonecroplaw19.OrderTells'. -/
def orderTellsUptoCard : Claim7 := { stood := { row := orderTellsUptoRow, standIns := [], harness := (true, "f4c0bd1fd78f54f56fafd58e6093d6bcc779bdf6b8602690ddb6ba0e871fedbe"), looks := false }, kinds := [], alts := [], laidByText := true, laidKinds := [.data, .pinned], laidTests := true, laidLooks := .later }
def OrderTellsUptoCardSaid : Prop := Claim7.holds Tryz.pinned (.plain (OpenSpec.upto orderTellsSpec)) orderTellsUptoCard

/-- THE SECOND FORM's CARD OF 'stonecroplaw19.OrderOne'. -/
def orderOneUptoCard : Claim7 := { stood := { row := orderOneUptoRow, standIns := [], harness := (true, "f4c0bd1fd78f54f56fafd58e6093d6bcc779bdf6b8602690ddb6ba0e871fedbe"), looks := false }, kinds := [], alts := [], laidByText := true, laidKinds := [.data, .pinned], laidTests := true, laidLooks := .later }
def OrderOneUptoCardSaid : Prop := Claim7.holds Tryz.pinned (.plain (OpenSpec.upto orderOneSpec)) orderOneUptoCard

/-- THE SECOND FORM's CARD OF 'stonecroplaw19.OrderParts'. -/
def orderPartsUptoCard : Claim7 := { stood := { row := orderPartsUptoRow, standIns := [], harness := (true, "f4c0bd1fd78f54f56fafd58e6093d6bcc779bdf6b8602690ddb6ba0e871fedbe"), looks := false }, kinds := [], alts := [], laidByText := true, laidKinds := [.data, .pinned], laidTests := true, laidLooks := .later }
def OrderPartsUptoCardSaid : Prop := Claim7.holds Tryz.pinned (.plain (OpenSpec.upto orderPartsSpec)) orderPartsUptoCard

/-- THE SECOND FORM's CARD OF 'stonecroplaw20.EnginePlays'. -/
def enginePlaysUptoCard : Claim7 := { stood := { row := enginePlaysUptoRow, standIns := [], harness := (true, "f4c0bd1fd78f54f56fafd58e6093d6bcc779bdf6b8602690ddb6ba0e871fedbe"), looks := false }, kinds := [], alts := [], laidByText := true, laidKinds := [.data, .pinned], laidTests := true, laidLooks := .later }
def EnginePlaysUptoCardSaid : Prop := Claim7.holds Tryz.pinned (.plain (OpenSpec.upto enginePlaysSpec)) enginePlaysUptoCard

/-- THE SECOND FORM's CARD OF 'stonecroplaw20.EngineOnce'. -/
def engineOnceUptoCard : Claim7 := { stood := { row := engineOnceUptoRow, standIns := [], harness := (true, "f4c0bd1fd78f54f56fafd58e6093d6bcc779bdf6b8602690ddb6ba0e871fedbe"), looks := false }, kinds := [], alts := [], laidByText := true, laidKinds := [.data, .pinned], laidTests := true, laidLooks := .later }
def EngineOnceUptoCardSaid : Prop := Claim7.holds Tryz.pinned (.plain (OpenSpec.upto engineOnceSpec)) engineOnceUptoCard

/-- THE SECOND FORM's CARD OF 'stonecroplaw20.EngineAgree'. -/
def engineAgreeUptoCard : Claim7 := { stood := { row := engineAgreeUptoRow, standIns := [], harness := (true, "f4c0bd1fd78f54f56fafd58e6093d6bcc779bdf6b8602690ddb6ba0e871fedbe"), looks := false }, kinds := [], alts := [], laidByText := true, laidKinds := [.data, .pinned], laidTests := true, laidLooks := .later }
def EngineAgreeUptoCardSaid : Prop := Claim7.holds Tryz.pinned (.plain (OpenSpec.upto engineAgreeSpec)) engineAgreeUptoCard
end Rows
end Go.Proofs.YtndfhejfhfhbdaaGreatDoor
