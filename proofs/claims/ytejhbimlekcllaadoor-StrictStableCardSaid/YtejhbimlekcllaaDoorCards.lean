/-
  DERIVED. GIVEN WITH THE SEED: THE CARDS: each row of YtejhbimlekcllaaDoorRows.lean that lists a variable, with what it lists TIED to the program's text (the seventh form; the later family's looks); each row that meets fmt, with fmt's text TOLD by the authors' own Lean function (tested against real Go, not proved from fmt's source: count such statements apart). THE CARD IS WHAT COUNTS. Prove the row's statement (the work); the ties are given (YtejhbimlekcllaaDoorTie.lean); close each card by the builder's one call (the guide's Derived/Test/ToyasCard.lean, 'card_holds'). Laid BY PROGRAM, IN A SANDBOX (cutbox-door.mjs). By AI agents, Wed Nov 11 2026. No macro, syntax, notation, axiom, sorry.
-/
import Derived.Test.YtejhbimlekcllaaDoorRows
import GoSem.ClaimSeven
namespace Go.Proofs.YtejhbimlekcllaaDoor
namespace Rows

/-- THE TIED CARD OF 'deliberationlaw06.StrictLeast'. -/
def strictLeastCard : Claim7 := { stood := { row := strictLeastRow, standIns := [], harness := (true, "6df2fd46ff3fcbf238fe7e6a5317c20c27695a5e24d650a87ea8284d67a6bb9c"), looks := false }, kinds := [], alts := [], laidByText := true, laidKinds := [.data, .data, .data], laidTests := true, laidLooks := .later }
def StrictLeastCardSaid : Prop := Claim7.holds Tryd.pinned (.plain (OpenSpec.ofChange strictLeastSpec)) strictLeastCard

/-- THE TIED CARD OF 'deliberationlaw06.StrictStable'. -/
def strictStableCard : Claim7 := { stood := { row := strictStableRow, standIns := [], harness := (true, "6df2fd46ff3fcbf238fe7e6a5317c20c27695a5e24d650a87ea8284d67a6bb9c"), looks := false }, kinds := [], alts := [], laidByText := true, laidKinds := [.data, .data, .data], laidTests := true, laidLooks := .later }
def StrictStableCardSaid : Prop := Claim7.holds Tryd.pinned (.plain (OpenSpec.ofChange strictStableSpec)) strictStableCard

/-- THE SECOND FORM's CARD OF 'deliberationlaw06.StrictLeast'. -/
def strictLeastUptoCard : Claim7 := { stood := { row := strictLeastUptoRow, standIns := [], harness := (true, "6df2fd46ff3fcbf238fe7e6a5317c20c27695a5e24d650a87ea8284d67a6bb9c"), looks := false }, kinds := [], alts := [], laidByText := true, laidKinds := [.data, .data, .data], laidTests := true, laidLooks := .later }
def StrictLeastUptoCardSaid : Prop := Claim7.holds Tryd.pinned (.plain (OpenSpec.upto strictLeastSpec)) strictLeastUptoCard

/-- THE SECOND FORM's CARD OF 'deliberationlaw06.StrictStable'. -/
def strictStableUptoCard : Claim7 := { stood := { row := strictStableUptoRow, standIns := [], harness := (true, "6df2fd46ff3fcbf238fe7e6a5317c20c27695a5e24d650a87ea8284d67a6bb9c"), looks := false }, kinds := [], alts := [], laidByText := true, laidKinds := [.data, .data, .data], laidTests := true, laidLooks := .later }
def StrictStableUptoCardSaid : Prop := Claim7.holds Tryd.pinned (.plain (OpenSpec.upto strictStableSpec)) strictStableUptoCard
end Rows
end Go.Proofs.YtejhbimlekcllaaDoor
