/-
  DERIVED. GIVEN WITH THE SEED: THE CARDS: each row of YtcpkdjlfgfikcaaGreatDoorRows.lean that lists a variable, with what it lists TIED to the program's text (the seventh form; the later family's looks); each row that meets fmt, with fmt's text TOLD by the authors' own Lean function (tested against real Go, not proved from fmt's source: count such statements apart). THE CARD IS WHAT COUNTS. Prove the row's statement (the work); the ties are given (YtcpkdjlfgfikcaaGreatDoorTie.lean); close each card by the builder's one call (the guide's Derived/Test/ToyasCard.lean, 'card_holds'). Laid BY PROGRAM, IN A SANDBOX (cutbox-door.mjs). By AI agents, Wed Nov 11 2026. No macro, syntax, notation, axiom, sorry.
-/
import Derived.Test.YtcpkdjlfgfikcaaGreatDoorRows
import GoSem.ClaimSeven
namespace Go.Proofs.YtcpkdjlfgfikcaaGreatDoor
namespace Rows

/-- THE TIED CARD OF 'deliberationlaw38.PrecedentAnswers'. -/
def precedentAnswersCard : Claim7 := { stood := { row := precedentAnswersRow, standIns := [], harness := (true, "84d534e9e365bc218972eeddb425d84ac94619526c4ffa587e778a4e69101983"), looks := false }, kinds := [], alts := [], laidByText := true, laidKinds := [.data], laidTests := true, laidLooks := .later }
def PrecedentAnswersCardSaid : Prop := Claim7.holds Tryz.pinned (.plain (OpenSpec.ofChange precedentAnswersSpec)) precedentAnswersCard

/-- THE SECOND FORM's CARD OF 'deliberationlaw38.PrecedentAnswers'. -/
def precedentAnswersUptoCard : Claim7 := { stood := { row := precedentAnswersUptoRow, standIns := [], harness := (true, "84d534e9e365bc218972eeddb425d84ac94619526c4ffa587e778a4e69101983"), looks := false }, kinds := [], alts := [], laidByText := true, laidKinds := [.data], laidTests := true, laidLooks := .later }
def PrecedentAnswersUptoCardSaid : Prop := Claim7.holds Tryz.pinned (.plain (OpenSpec.upto precedentAnswersSpec)) precedentAnswersUptoCard
end Rows
end Go.Proofs.YtcpkdjlfgfikcaaGreatDoor
