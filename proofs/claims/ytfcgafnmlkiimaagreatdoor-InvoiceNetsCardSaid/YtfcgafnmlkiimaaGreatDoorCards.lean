/-
  DERIVED. GIVEN WITH THE SEED: THE CARDS: each row of YtfcgafnmlkiimaaGreatDoorRows.lean that lists a variable, with what it lists TIED to the program's text (the seventh form; the later family's looks); each row that meets fmt, with fmt's text TOLD by the authors' own Lean function (tested against real Go, not proved from fmt's source: count such statements apart). THE CARD IS WHAT COUNTS. Prove the row's statement (the work); the ties are given (YtfcgafnmlkiimaaGreatDoorTie.lean); close each card by the builder's one call (the guide's Derived/Test/ToyasCard.lean, 'card_holds'). Laid BY PROGRAM, IN A SANDBOX (cutbox-door.mjs). By AI agents, Wed Nov 11 2026. No macro, syntax, notation, axiom, sorry.
-/
import Derived.Test.YtfcgafnmlkiimaaGreatDoorRows
import GoSem.ClaimSeven
namespace Go.Proofs.YtfcgafnmlkiimaaGreatDoor
namespace Rows

/-- THE TIED CARD OF 'purserlaw21.InvoiceChecks'. -/
def invoiceChecksCard : Claim7 := { stood := { row := invoiceChecksRow, standIns := [], harness := (true, "f73d484f5cc4cbfaac59cb7c0bd234d342763378d72e8f6d330d5e9aa9ed54ae"), looks := false }, kinds := [], alts := [], laidByText := true, laidKinds := [.data, .data, .data], laidTests := true, laidLooks := .later }
def InvoiceChecksCardSaid : Prop := Claim7.holds Tryz.pinned (.plain (OpenSpec.ofChange invoiceChecksSpec)) invoiceChecksCard

/-- THE TIED CARD OF 'purserlaw21.InvoiceReads'. -/
def invoiceReadsCard : Claim7 := { stood := { row := invoiceReadsRow, standIns := [], harness := (true, "f73d484f5cc4cbfaac59cb7c0bd234d342763378d72e8f6d330d5e9aa9ed54ae"), looks := false }, kinds := [], alts := [], laidByText := true, laidKinds := [.data, .data, .data], laidTests := true, laidLooks := .later }
def InvoiceReadsCardSaid : Prop := Claim7.holds Tryz.pinned (.plain (OpenSpec.ofChange invoiceReadsSpec)) invoiceReadsCard

/-- THE TIED CARD OF 'purserlaw21.InvoiceNets'. -/
def invoiceNetsCard : Claim7 := { stood := { row := invoiceNetsRow, standIns := [], harness := (true, "f73d484f5cc4cbfaac59cb7c0bd234d342763378d72e8f6d330d5e9aa9ed54ae"), looks := false }, kinds := [], alts := [], laidByText := true, laidKinds := [.data, .data, .data], laidTests := true, laidLooks := .later }
def InvoiceNetsCardSaid : Prop := Claim7.holds Tryz.pinned (.plain (OpenSpec.ofChange invoiceNetsSpec)) invoiceNetsCard

/-- THE SECOND FORM's CARD OF 'purserlaw21.InvoiceChecks'. -/
def invoiceChecksUptoCard : Claim7 := { stood := { row := invoiceChecksUptoRow, standIns := [], harness := (true, "f73d484f5cc4cbfaac59cb7c0bd234d342763378d72e8f6d330d5e9aa9ed54ae"), looks := false }, kinds := [], alts := [], laidByText := true, laidKinds := [.data, .data, .data], laidTests := true, laidLooks := .later }
def InvoiceChecksUptoCardSaid : Prop := Claim7.holds Tryz.pinned (.plain (OpenSpec.upto invoiceChecksSpec)) invoiceChecksUptoCard

/-- THE SECOND FORM's CARD OF 'purserlaw21.InvoiceReads'. -/
def invoiceReadsUptoCard : Claim7 := { stood := { row := invoiceReadsUptoRow, standIns := [], harness := (true, "f73d484f5cc4cbfaac59cb7c0bd234d342763378d72e8f6d330d5e9aa9ed54ae"), looks := false }, kinds := [], alts := [], laidByText := true, laidKinds := [.data, .data, .data], laidTests := true, laidLooks := .later }
def InvoiceReadsUptoCardSaid : Prop := Claim7.holds Tryz.pinned (.plain (OpenSpec.upto invoiceReadsSpec)) invoiceReadsUptoCard

/-- THE SECOND FORM's CARD OF 'purserlaw21.InvoiceNets'. -/
def invoiceNetsUptoCard : Claim7 := { stood := { row := invoiceNetsUptoRow, standIns := [], harness := (true, "f73d484f5cc4cbfaac59cb7c0bd234d342763378d72e8f6d330d5e9aa9ed54ae"), looks := false }, kinds := [], alts := [], laidByText := true, laidKinds := [.data, .data, .data], laidTests := true, laidLooks := .later }
def InvoiceNetsUptoCardSaid : Prop := Claim7.holds Tryz.pinned (.plain (OpenSpec.upto invoiceNetsSpec)) invoiceNetsUptoCard
end Rows
end Go.Proofs.YtfcgafnmlkiimaaGreatDoor
