/-
  DERIVED. GIVEN WITH THE SEED: THE CARDS: each row of YtejhbimlekcllaaGreatDoorRows.lean that lists a variable, with what it lists TIED to the program's text (the seventh form; the later family's looks); each row that meets fmt, with fmt's text TOLD by the authors' own Lean function (tested against real Go, not proved from fmt's source: count such statements apart). THE CARD IS WHAT COUNTS. Prove the row's statement (the work); the ties are given (YtejhbimlekcllaaGreatDoorTie.lean); close each card by the builder's one call (the guide's Derived/Test/ToyasCard.lean, 'card_holds'). Laid BY PROGRAM, IN A SANDBOX (cutbox-door.mjs). By AI agents, Wed Nov 11 2026. No macro, syntax, notation, axiom, sorry.
-/
import Derived.Test.YtejhbimlekcllaaGreatDoorRows
import GoSem.ClaimSeven
namespace Go.Proofs.YtejhbimlekcllaaGreatDoor
namespace Rows

/-- THE TIED CARD OF 'deliberationlaw06.StrictCloses'. -/
def strictClosesCard : Claim7 := { stood := { row := strictClosesRow, standIns := [], harness := (true, "77b95f3a5898131a793920ff4f197028026d182e4e3a3b1d322bc3552cf222bb"), looks := false }, kinds := [], alts := [], laidByText := true, laidKinds := [.data, .data, .data], laidTests := true, laidLooks := .later }
def StrictClosesCardSaid : Prop := Claim7.holds Tryz.pinned (.plain (OpenSpec.ofChange strictClosesSpec)) strictClosesCard

/-- THE TIED CARD OF 'deliberationlaw06.StrictTransposes'. -/
def strictTransposesCard : Claim7 := { stood := { row := strictTransposesRow, standIns := [], harness := (true, "77b95f3a5898131a793920ff4f197028026d182e4e3a3b1d322bc3552cf222bb"), looks := false }, kinds := [], alts := [], laidByText := true, laidKinds := [.data, .data, .data], laidTests := true, laidLooks := .later }
def StrictTransposesCardSaid : Prop := Claim7.holds Tryz.pinned (.plain (OpenSpec.ofChange strictTransposesSpec)) strictTransposesCard

/-- THE TIED CARD OF 'deliberationlaw06.StrictContraposes'. -/
def strictContraposesCard : Claim7 := { stood := { row := strictContraposesRow, standIns := [], harness := (true, "77b95f3a5898131a793920ff4f197028026d182e4e3a3b1d322bc3552cf222bb"), looks := false }, kinds := [], alts := [], laidByText := true, laidKinds := [.data, .data, .data], laidTests := true, laidLooks := .later }
def StrictContraposesCardSaid : Prop := Claim7.holds Tryz.pinned (.plain (OpenSpec.ofChange strictContraposesSpec)) strictContraposesCard

/-- THE TIED CARD OF 'deliberationlaw06.StrictBlames'. -/
def strictBlamesCard : Claim7 := { stood := { row := strictBlamesRow, standIns := [], harness := (true, "77b95f3a5898131a793920ff4f197028026d182e4e3a3b1d322bc3552cf222bb"), looks := false }, kinds := [], alts := [], laidByText := true, laidKinds := [.data, .data, .data], laidTests := true, laidLooks := .later }
def StrictBlamesCardSaid : Prop := Claim7.holds Tryz.pinned (.plain (OpenSpec.ofChange strictBlamesSpec)) strictBlamesCard

/-- THE SECOND FORM's CARD OF 'deliberationlaw06.StrictCloses'. -/
def strictClosesUptoCard : Claim7 := { stood := { row := strictClosesUptoRow, standIns := [], harness := (true, "77b95f3a5898131a793920ff4f197028026d182e4e3a3b1d322bc3552cf222bb"), looks := false }, kinds := [], alts := [], laidByText := true, laidKinds := [.data, .data, .data], laidTests := true, laidLooks := .later }
def StrictClosesUptoCardSaid : Prop := Claim7.holds Tryz.pinned (.plain (OpenSpec.upto strictClosesSpec)) strictClosesUptoCard

/-- THE SECOND FORM's CARD OF 'deliberationlaw06.StrictTransposes'. -/
def strictTransposesUptoCard : Claim7 := { stood := { row := strictTransposesUptoRow, standIns := [], harness := (true, "77b95f3a5898131a793920ff4f197028026d182e4e3a3b1d322bc3552cf222bb"), looks := false }, kinds := [], alts := [], laidByText := true, laidKinds := [.data, .data, .data], laidTests := true, laidLooks := .later }
def StrictTransposesUptoCardSaid : Prop := Claim7.holds Tryz.pinned (.plain (OpenSpec.upto strictTransposesSpec)) strictTransposesUptoCard

/-- THE SECOND FORM's CARD OF 'deliberationlaw06.StrictContraposes'. -/
def strictContraposesUptoCard : Claim7 := { stood := { row := strictContraposesUptoRow, standIns := [], harness := (true, "77b95f3a5898131a793920ff4f197028026d182e4e3a3b1d322bc3552cf222bb"), looks := false }, kinds := [], alts := [], laidByText := true, laidKinds := [.data, .data, .data], laidTests := true, laidLooks := .later }
def StrictContraposesUptoCardSaid : Prop := Claim7.holds Tryz.pinned (.plain (OpenSpec.upto strictContraposesSpec)) strictContraposesUptoCard

/-- THE SECOND FORM's CARD OF 'deliberationlaw06.StrictBlames'. -/
def strictBlamesUptoCard : Claim7 := { stood := { row := strictBlamesUptoRow, standIns := [], harness := (true, "77b95f3a5898131a793920ff4f197028026d182e4e3a3b1d322bc3552cf222bb"), looks := false }, kinds := [], alts := [], laidByText := true, laidKinds := [.data, .data, .data], laidTests := true, laidLooks := .later }
def StrictBlamesUptoCardSaid : Prop := Claim7.holds Tryz.pinned (.plain (OpenSpec.upto strictBlamesSpec)) strictBlamesUptoCard
end Rows
end Go.Proofs.YtejhbimlekcllaaGreatDoor
