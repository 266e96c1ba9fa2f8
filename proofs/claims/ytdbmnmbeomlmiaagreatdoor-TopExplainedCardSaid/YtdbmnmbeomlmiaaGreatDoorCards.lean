/-
  DERIVED. GIVEN WITH THE SEED: THE CARDS: each row of YtdbmnmbeomlmiaaGreatDoorRows.lean that lists a variable, with what it lists TIED to the program's text (the seventh form; the later family's looks); each row that meets fmt, with fmt's text TOLD by the authors' own Lean function (tested against real Go, not proved from fmt's source: count such statements apart). THE CARD IS WHAT COUNTS. Prove the row's statement (the work); the ties are given (YtdbmnmbeomlmiaaGreatDoorTie.lean); close each card by the builder's one call (the guide's Derived/Test/ToyasCard.lean, 'card_holds'). Laid BY PROGRAM, IN A SANDBOX (cutbox-door.mjs). By AI agents, Wed Nov 11 2026. No macro, syntax, notation, axiom, sorry.
-/
import Derived.Test.YtdbmnmbeomlmiaaGreatDoorRows
import GoSem.ClaimSeven
namespace Go.Proofs.YtdbmnmbeomlmiaaGreatDoor
namespace Rows

/-- THE TIED CARD OF 'deliberationtop.TopExplained'. -/
def topExplainedCard : Claim7 := { stood := { row := topExplainedRow, standIns := [], harness := (true, "ded6238a75b7b65a8001a81f57d7af0f8653fc4290195e50148a8b49e66e41b2"), looks := false }, kinds := [], alts := [], laidByText := true, laidKinds := [.data, .data, .data], laidTests := true, laidLooks := .later }
def TopExplainedCardSaid : Prop := Claim7.holds Tryz.pinned (.plain (OpenSpec.ofChange topExplainedSpec)) topExplainedCard

/-- THE SECOND FORM's CARD OF 'deliberationtop.TopExplained'. -/
def topExplainedUptoCard : Claim7 := { stood := { row := topExplainedUptoRow, standIns := [], harness := (true, "ded6238a75b7b65a8001a81f57d7af0f8653fc4290195e50148a8b49e66e41b2"), looks := false }, kinds := [], alts := [], laidByText := true, laidKinds := [.data, .data, .data], laidTests := true, laidLooks := .later }
def TopExplainedUptoCardSaid : Prop := Claim7.holds Tryz.pinned (.plain (OpenSpec.upto topExplainedSpec)) topExplainedUptoCard
end Rows
end Go.Proofs.YtdbmnmbeomlmiaaGreatDoor
