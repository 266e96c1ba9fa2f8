/-
  DERIVED. GIVEN WITH THE SEED: THE CARDS: each row of YtpnhpildieghpaaGreatDoorRows.lean that lists a variable, with what it lists TIED to the program's text (the seventh form; the later family's looks); each row that meets fmt, with fmt's text TOLD by the authors' own Lean function (tested against real Go, not proved from fmt's source: count such statements apart). THE CARD IS WHAT COUNTS. Prove the row's statement (the work); the ties are given (YtpnhpildieghpaaGreatDoorTie.lean); close each card by the builder's one call (the guide's Derived/Test/ToyasCard.lean, 'card_holds'). Laid BY PROGRAM, IN A SANDBOX (cutbox-door.mjs). By AI agents, Wed Nov 11 2026. No macro, syntax, notation, axiom, sorry.
-/
import Derived.Test.YtpnhpildieghpaaGreatDoorRows
import GoSem.ClaimSeven
namespace Go.Proofs.YtpnhpildieghpaaGreatDoor
namespace Rows

/-- THE TIED CARD OF 'deliberationtop.TopPrices'. -/
def topPricesCard : Claim7 := { stood := { row := topPricesRow, standIns := [], harness := (true, "d531e1076a0ec7441128cee49662f1a3fbd81fa4bed447739710725f06f306e0"), looks := false }, kinds := [], alts := [], laidByText := true, laidKinds := [.data, .data, .data], laidTests := true, laidLooks := .later }
def TopPricesCardSaid : Prop := Claim7.holds Tryz.pinned (.plain (OpenSpec.ofChange topPricesSpec)) topPricesCard

/-- THE SECOND FORM's CARD OF 'deliberationtop.TopPrices'. -/
def topPricesUptoCard : Claim7 := { stood := { row := topPricesUptoRow, standIns := [], harness := (true, "d531e1076a0ec7441128cee49662f1a3fbd81fa4bed447739710725f06f306e0"), looks := false }, kinds := [], alts := [], laidByText := true, laidKinds := [.data, .data, .data], laidTests := true, laidLooks := .later }
def TopPricesUptoCardSaid : Prop := Claim7.holds Tryz.pinned (.plain (OpenSpec.upto topPricesSpec)) topPricesUptoCard
end Rows
end Go.Proofs.YtpnhpildieghpaaGreatDoor
