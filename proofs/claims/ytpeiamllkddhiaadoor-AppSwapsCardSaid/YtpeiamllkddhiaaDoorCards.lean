/-
  DERIVED. GIVEN WITH THE SEED: THE CARDS: each row of YtpeiamllkddhiaaDoorRows.lean that lists a variable, with what it lists TIED to the program's text (the seventh form; the later family's looks); each row that meets fmt, with fmt's text TOLD by the authors' own Lean function (tested against real Go, not proved from fmt's source: count such statements apart). THE CARD IS WHAT COUNTS. Prove the row's statement (the work); the ties are given (YtpeiamllkddhiaaDoorTie.lean); close each card by the builder's one call (the guide's Derived/Test/ToyasCard.lean, 'card_holds'). Laid BY PROGRAM, IN A SANDBOX (cutbox-door.mjs). By AI agents, Wed Nov 11 2026. No macro, syntax, notation, axiom, sorry.
-/
import Derived.Test.YtpeiamllkddhiaaDoorRows
import GoSem.ClaimSeven
namespace Go.Proofs.YtpeiamllkddhiaaDoor
namespace Rows

/-- THE TIED CARD OF 'stonecroplaw21.AppRevs'. -/
def appRevsCard : Claim7 := { stood := { row := appRevsRow, standIns := [], harness := (true, "ab4ef4d138579a5f5dfe7c1335fe9cf68d5de279c56116c8d843a5e24659e8f4"), looks := true }, kinds := [], alts := [], laidByText := true, laidKinds := [.data, .data, .data, .data, .pinned], laidTests := true, laidLooks := .later }
def AppRevsCardSaid : Prop := Claim7.holds Tryd.pinned (.plain (OpenSpec.ofChange appRevsSpec)) appRevsCard

/-- THE TIED CARD OF 'stonecroplaw21.AppFinds'. -/
def appFindsCard : Claim7 := { stood := { row := appFindsRow, standIns := [], harness := (true, "ab4ef4d138579a5f5dfe7c1335fe9cf68d5de279c56116c8d843a5e24659e8f4"), looks := true }, kinds := [], alts := [], laidByText := true, laidKinds := [.data, .data, .data, .data, .pinned], laidTests := true, laidLooks := .later }
def AppFindsCardSaid : Prop := Claim7.holds Tryd.pinned (.plain (OpenSpec.ofChange appFindsSpec)) appFindsCard

/-- THE TIED CARD OF 'stonecroplaw21.AppReads'. -/
def appReadsCard : Claim7 := { stood := { row := appReadsRow, standIns := [], harness := (true, "ab4ef4d138579a5f5dfe7c1335fe9cf68d5de279c56116c8d843a5e24659e8f4"), looks := true }, kinds := [], alts := [], laidByText := true, laidKinds := [.data, .data, .data, .data, .pinned], laidTests := true, laidLooks := .later }
def AppReadsCardSaid : Prop := Claim7.holds Tryd.pinned (.plain (OpenSpec.ofChange appReadsSpec)) appReadsCard

/-- THE TIED CARD OF 'stonecroplaw21.AppPlays'. -/
def appPlaysCard : Claim7 := { stood := { row := appPlaysRow, standIns := [], harness := (true, "ab4ef4d138579a5f5dfe7c1335fe9cf68d5de279c56116c8d843a5e24659e8f4"), looks := true }, kinds := [], alts := [], laidByText := true, laidKinds := [.data, .data, .data, .data, .pinned], laidTests := true, laidLooks := .later }
def AppPlaysCardSaid : Prop := Claim7.holds Tryd.pinned (.plain (OpenSpec.ofChange appPlaysSpec)) appPlaysCard

/-- THE TIED CARD OF 'stonecroplaw22.SessionApart'. -/
def sessionApartCard : Claim7 := { stood := { row := sessionApartRow, standIns := [], harness := (true, "ab4ef4d138579a5f5dfe7c1335fe9cf68d5de279c56116c8d843a5e24659e8f4"), looks := true }, kinds := [], alts := [], laidByText := true, laidKinds := [.data, .data, .data, .data, .pinned], laidTests := true, laidLooks := .later }
def SessionApartCardSaid : Prop := Claim7.holds Tryd.pinned (.plain (OpenSpec.ofChange sessionApartSpec)) sessionApartCard

/-- THE TIED CARD OF 'stonecroplaw21.AppSwaps'. -/
def appSwapsCard : Claim7 := { stood := { row := appSwapsRow, standIns := [], harness := (true, "ab4ef4d138579a5f5dfe7c1335fe9cf68d5de279c56116c8d843a5e24659e8f4"), looks := true }, kinds := [], alts := [], laidByText := true, laidKinds := [.data, .data, .data, .data, .pinned], laidTests := true, laidLooks := .later }
def AppSwapsCardSaid : Prop := Claim7.holds Tryd.pinned (.plain (OpenSpec.ofChange appSwapsSpec)) appSwapsCard

/-- THE TIED CARD OF 'stonecroplaw22.SessionOnce'. -/
def sessionOnceCard : Claim7 := { stood := { row := sessionOnceRow, standIns := [], harness := (true, "ab4ef4d138579a5f5dfe7c1335fe9cf68d5de279c56116c8d843a5e24659e8f4"), looks := true }, kinds := [], alts := [], laidByText := true, laidKinds := [.data, .data, .data, .data, .pinned], laidTests := true, laidLooks := .later }
def SessionOnceCardSaid : Prop := Claim7.holds Tryd.pinned (.plain (OpenSpec.ofChange sessionOnceSpec)) sessionOnceCard

/-- THE TIED CARD OF 'stonecroplaw22.SessionRow'. -/
def sessionRowCard : Claim7 := { stood := { row := sessionRowRow, standIns := [], harness := (true, "ab4ef4d138579a5f5dfe7c1335fe9cf68d5de279c56116c8d843a5e24659e8f4"), looks := true }, kinds := [], alts := [], laidByText := true, laidKinds := [.data, .data, .data, .data, .pinned], laidTests := true, laidLooks := .later }
def SessionRowCardSaid : Prop := Claim7.holds Tryd.pinned (.plain (OpenSpec.ofChange sessionRowSpec)) sessionRowCard

/-- THE SECOND FORM's CARD OF 'stonecroplaw21.AppRevs'. -/
def appRevsUptoCard : Claim7 := { stood := { row := appRevsUptoRow, standIns := [], harness := (true, "ab4ef4d138579a5f5dfe7c1335fe9cf68d5de279c56116c8d843a5e24659e8f4"), looks := true }, kinds := [], alts := [], laidByText := true, laidKinds := [.data, .data, .data, .data, .pinned], laidTests := true, laidLooks := .later }
def AppRevsUptoCardSaid : Prop := Claim7.holds Tryd.pinned (.plain (OpenSpec.upto appRevsSpec)) appRevsUptoCard

/-- THE SECOND FORM's CARD OF 'stonecroplaw21.AppFinds'. -/
def appFindsUptoCard : Claim7 := { stood := { row := appFindsUptoRow, standIns := [], harness := (true, "ab4ef4d138579a5f5dfe7c1335fe9cf68d5de279c56116c8d843a5e24659e8f4"), looks := true }, kinds := [], alts := [], laidByText := true, laidKinds := [.data, .data, .data, .data, .pinned], laidTests := true, laidLooks := .later }
def AppFindsUptoCardSaid : Prop := Claim7.holds Tryd.pinned (.plain (OpenSpec.upto appFindsSpec)) appFindsUptoCard

/-- THE SECOND FORM's CARD OF 'stonecroplaw21.AppReads'. -/
def appReadsUptoCard : Claim7 := { stood := { row := appReadsUptoRow, standIns := [], harness := (true, "ab4ef4d138579a5f5dfe7c1335fe9cf68d5de279c56116c8d843a5e24659e8f4"), looks := true }, kinds := [], alts := [], laidByText := true, laidKinds := [.data, .data, .data, .data, .pinned], laidTests := true, laidLooks := .later }
def AppReadsUptoCardSaid : Prop := Claim7.holds Tryd.pinned (.plain (OpenSpec.upto appReadsSpec)) appReadsUptoCard

/-- THE SECOND FORM's CARD OF 'stonecroplaw21.AppPlays'. -/
def appPlaysUptoCard : Claim7 := { stood := { row := appPlaysUptoRow, standIns := [], harness := (true, "ab4ef4d138579a5f5dfe7c1335fe9cf68d5de279c56116c8d843a5e24659e8f4"), looks := true }, kinds := [], alts := [], laidByText := true, laidKinds := [.data, .data, .data, .data, .pinned], laidTests := true, laidLooks := .later }
def AppPlaysUptoCardSaid : Prop := Claim7.holds Tryd.pinned (.plain (OpenSpec.upto appPlaysSpec)) appPlaysUptoCard

/-- THE SECOND FORM's CARD OF 'stonecroplaw22.SessionApart'. -/
def sessionApartUptoCard : Claim7 := { stood := { row := sessionApartUptoRow, standIns := [], harness := (true, "ab4ef4d138579a5f5dfe7c1335fe9cf68d5de279c56116c8d843a5e24659e8f4"), looks := true }, kinds := [], alts := [], laidByText := true, laidKinds := [.data, .data, .data, .data, .pinned], laidTests := true, laidLooks := .later }
def SessionApartUptoCardSaid : Prop := Claim7.holds Tryd.pinned (.plain (OpenSpec.upto sessionApartSpec)) sessionApartUptoCard

/-- THE SECOND FORM's CARD OF 'stonecroplaw21.AppSwaps'. -/
def appSwapsUptoCard : Claim7 := { stood := { row := appSwapsUptoRow, standIns := [], harness := (true, "ab4ef4d138579a5f5dfe7c1335fe9cf68d5de279c56116c8d843a5e24659e8f4"), looks := true }, kinds := [], alts := [], laidByText := true, laidKinds := [.data, .data, .data, .data, .pinned], laidTests := true, laidLooks := .later }
def AppSwapsUptoCardSaid : Prop := Claim7.holds Tryd.pinned (.plain (OpenSpec.upto appSwapsSpec)) appSwapsUptoCard

/-- THE SECOND FORM's CARD OF 'stonecroplaw22.SessionOnce'. -/
def sessionOnceUptoCard : Claim7 := { stood := { row := sessionOnceUptoRow, standIns := [], harness := (true, "ab4ef4d138579a5f5dfe7c1335fe9cf68d5de279c56116c8d843a5e24659e8f4"), looks := true }, kinds := [], alts := [], laidByText := true, laidKinds := [.data, .data, .data, .data, .pinned], laidTests := true, laidLooks := .later }
def SessionOnceUptoCardSaid : Prop := Claim7.holds Tryd.pinned (.plain (OpenSpec.upto sessionOnceSpec)) sessionOnceUptoCard

/-- THE SECOND FORM's CARD OF 'stonecroplaw22.SessionRow'. -/
def sessionRowUptoCard : Claim7 := { stood := { row := sessionRowUptoRow, standIns := [], harness := (true, "ab4ef4d138579a5f5dfe7c1335fe9cf68d5de279c56116c8d843a5e24659e8f4"), looks := true }, kinds := [], alts := [], laidByText := true, laidKinds := [.data, .data, .data, .data, .pinned], laidTests := true, laidLooks := .later }
def SessionRowUptoCardSaid : Prop := Claim7.holds Tryd.pinned (.plain (OpenSpec.upto sessionRowSpec)) sessionRowUptoCard
end Rows
end Go.Proofs.YtpeiamllkddhiaaDoor
