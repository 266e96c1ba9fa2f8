/-
  DERIVED. GIVEN WITH THE SEED: THE CARDS: each row of YtcopohboenimpaaGreatDoorRows.lean that lists a variable, with what it lists TIED to the program's text (the seventh form; the later family's looks); each row that meets fmt, with fmt's text TOLD by the authors' own Lean function (tested against real Go, not proved from fmt's source: count such statements apart). THE CARD IS WHAT COUNTS. Prove the row's statement (the work); the ties are given (YtcopohboenimpaaGreatDoorTie.lean); close each card by the builder's one call (the guide's Derived/Test/ToyasCard.lean, 'card_holds'). Laid BY PROGRAM, IN A SANDBOX (cutbox-door.mjs). By AI agents, Wed Nov 11 2026. No macro, syntax, notation, axiom, sorry.
-/
import Derived.Test.YtcopohboenimpaaGreatDoorRows
import GoSem.ClaimSeven
namespace Go.Proofs.YtcopohboenimpaaGreatDoor
namespace Rows

/-- THE TIED CARD OF 'deliberationlaw18.VerdictEncodes'. -/
def verdictEncodesCard : Claim7 := { stood := { row := verdictEncodesRow, standIns := [], harness := (true, "a12da88d7a5b356441766bd13ebfc89d2c6f9b7fcafd81990952aba686cefc07"), looks := false }, kinds := [], alts := [], laidByText := true, laidKinds := [.data, .data, .data], laidTests := true, laidLooks := .later }
def VerdictEncodesCardSaid : Prop := Claim7.holds Tryz.pinned (.plain (OpenSpec.ofChange verdictEncodesSpec)) verdictEncodesCard

/-- THE TIED CARD OF 'deliberationlaw18.VerdictModels'. -/
def verdictModelsCard : Claim7 := { stood := { row := verdictModelsRow, standIns := [], harness := (true, "a12da88d7a5b356441766bd13ebfc89d2c6f9b7fcafd81990952aba686cefc07"), looks := false }, kinds := [], alts := [], laidByText := true, laidKinds := [.data, .data, .data], laidTests := true, laidLooks := .later }
def VerdictModelsCardSaid : Prop := Claim7.holds Tryz.pinned (.plain (OpenSpec.ofChange verdictModelsSpec)) verdictModelsCard

/-- THE TIED CARD OF 'deliberationlaw18.VerdictDecides'. -/
def verdictDecidesCard : Claim7 := { stood := { row := verdictDecidesRow, standIns := [], harness := (true, "a12da88d7a5b356441766bd13ebfc89d2c6f9b7fcafd81990952aba686cefc07"), looks := false }, kinds := [], alts := [], laidByText := true, laidKinds := [.data, .data, .data], laidTests := true, laidLooks := .later }
def VerdictDecidesCardSaid : Prop := Claim7.holds Tryz.pinned (.plain (OpenSpec.ofChange verdictDecidesSpec)) verdictDecidesCard

/-- THE TIED CARD OF 'deliberationlaw18.VerdictExclusive'. -/
def verdictExclusiveCard : Claim7 := { stood := { row := verdictExclusiveRow, standIns := [], harness := (true, "a12da88d7a5b356441766bd13ebfc89d2c6f9b7fcafd81990952aba686cefc07"), looks := false }, kinds := [], alts := [], laidByText := true, laidKinds := [.data, .data, .data], laidTests := true, laidLooks := .later }
def VerdictExclusiveCardSaid : Prop := Claim7.holds Tryz.pinned (.plain (OpenSpec.ofChange verdictExclusiveSpec)) verdictExclusiveCard

/-- THE TIED CARD OF 'deliberationlaw18.VerdictMeans'. -/
def verdictMeansCard : Claim7 := { stood := { row := verdictMeansRow, standIns := [], harness := (true, "a12da88d7a5b356441766bd13ebfc89d2c6f9b7fcafd81990952aba686cefc07"), looks := false }, kinds := [], alts := [], laidByText := true, laidKinds := [.data, .data, .data], laidTests := true, laidLooks := .later }
def VerdictMeansCardSaid : Prop := Claim7.holds Tryz.pinned (.plain (OpenSpec.ofChange verdictMeansSpec)) verdictMeansCard

/-- THE SECOND FORM's CARD OF 'deliberationlaw18.VerdictEncodes'. -/
def verdictEncodesUptoCard : Claim7 := { stood := { row := verdictEncodesUptoRow, standIns := [], harness := (true, "a12da88d7a5b356441766bd13ebfc89d2c6f9b7fcafd81990952aba686cefc07"), looks := false }, kinds := [], alts := [], laidByText := true, laidKinds := [.data, .data, .data], laidTests := true, laidLooks := .later }
def VerdictEncodesUptoCardSaid : Prop := Claim7.holds Tryz.pinned (.plain (OpenSpec.upto verdictEncodesSpec)) verdictEncodesUptoCard

/-- THE SECOND FORM's CARD OF 'deliberationlaw18.VerdictModels'. -/
def verdictModelsUptoCard : Claim7 := { stood := { row := verdictModelsUptoRow, standIns := [], harness := (true, "a12da88d7a5b356441766bd13ebfc89d2c6f9b7fcafd81990952aba686cefc07"), looks := false }, kinds := [], alts := [], laidByText := true, laidKinds := [.data, .data, .data], laidTests := true, laidLooks := .later }
def VerdictModelsUptoCardSaid : Prop := Claim7.holds Tryz.pinned (.plain (OpenSpec.upto verdictModelsSpec)) verdictModelsUptoCard

/-- THE SECOND FORM's CARD OF 'deliberationlaw18.VerdictDecides'. -/
def verdictDecidesUptoCard : Claim7 := { stood := { row := verdictDecidesUptoRow, standIns := [], harness := (true, "a12da88d7a5b356441766bd13ebfc89d2c6f9b7fcafd81990952aba686cefc07"), looks := false }, kinds := [], alts := [], laidByText := true, laidKinds := [.data, .data, .data], laidTests := true, laidLooks := .later }
def VerdictDecidesUptoCardSaid : Prop := Claim7.holds Tryz.pinned (.plain (OpenSpec.upto verdictDecidesSpec)) verdictDecidesUptoCard

/-- THE SECOND FORM's CARD OF 'deliberationlaw18.VerdictExclusive'. -/
def verdictExclusiveUptoCard : Claim7 := { stood := { row := verdictExclusiveUptoRow, standIns := [], harness := (true, "a12da88d7a5b356441766bd13ebfc89d2c6f9b7fcafd81990952aba686cefc07"), looks := false }, kinds := [], alts := [], laidByText := true, laidKinds := [.data, .data, .data], laidTests := true, laidLooks := .later }
def VerdictExclusiveUptoCardSaid : Prop := Claim7.holds Tryz.pinned (.plain (OpenSpec.upto verdictExclusiveSpec)) verdictExclusiveUptoCard

/-- THE SECOND FORM's CARD OF 'deliberationlaw18.VerdictMeans'. -/
def verdictMeansUptoCard : Claim7 := { stood := { row := verdictMeansUptoRow, standIns := [], harness := (true, "a12da88d7a5b356441766bd13ebfc89d2c6f9b7fcafd81990952aba686cefc07"), looks := false }, kinds := [], alts := [], laidByText := true, laidKinds := [.data, .data, .data], laidTests := true, laidLooks := .later }
def VerdictMeansUptoCardSaid : Prop := Claim7.holds Tryz.pinned (.plain (OpenSpec.upto verdictMeansSpec)) verdictMeansUptoCard
end Rows
end Go.Proofs.YtcopohboenimpaaGreatDoor
