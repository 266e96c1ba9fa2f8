/-
  DERIVED. GIVEN WITH THE SEED: THE CARDS: each row of YtkkgghdjclkknaaGreatDoorRows.lean that lists a variable, with what it lists TIED to the program's text (the seventh form; the later family's looks); each row that meets fmt, with fmt's text TOLD by the authors' own Lean function (tested against real Go, not proved from fmt's source: count such statements apart). THE CARD IS WHAT COUNTS. Prove the row's statement (the work); the ties are given (YtkkgghdjclkknaaGreatDoorTie.lean); close each card by the builder's one call (the guide's Derived/Test/ToyasCard.lean, 'card_holds'). Laid BY PROGRAM, IN A SANDBOX (cutbox-door.mjs). By AI agents, Wed Nov 11 2026. No macro, syntax, notation, axiom, sorry.
-/
import Derived.Test.YtkkgghdjclkknaaGreatDoorRows
import GoSem.ClaimSeven
namespace Go.Proofs.YtkkgghdjclkknaaGreatDoor
namespace Rows

/-- THE TIED CARD OF 'deliberationtop.TopEnforced'. -/
def topEnforcedCard : Claim7 := { stood := { row := topEnforcedRow, standIns := [], harness := (true, "f40c7465355068069e2f34e252228c782b76a5fc01783d7d0de1800f44ac756a"), looks := false }, kinds := [], alts := [], goes := true, laidByText := true, laidKinds := [.data, .data, .data], laidTests := true, laidLooks := .later }
def TopEnforcedCardSaid : Prop := Claim7.holds Tryz.pinned (.plain (OpenSpec.ofChange topEnforcedSpec)) topEnforcedCard

/-- THE SECOND FORM's CARD OF 'deliberationtop.TopEnforced'. -/
def topEnforcedUptoCard : Claim7 := { stood := { row := topEnforcedUptoRow, standIns := [], harness := (true, "f40c7465355068069e2f34e252228c782b76a5fc01783d7d0de1800f44ac756a"), looks := false }, kinds := [], alts := [], goes := true, laidByText := true, laidKinds := [.data, .data, .data], laidTests := true, laidLooks := .later }
def TopEnforcedUptoCardSaid : Prop := Claim7.holds Tryz.pinned (.plain (OpenSpec.upto topEnforcedSpec)) topEnforcedUptoCard
end Rows
end Go.Proofs.YtkkgghdjclkknaaGreatDoor
