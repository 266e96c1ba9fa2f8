/-
  DERIVED. GIVEN WITH THE SEED: THE CARDS: each row of YtmbflfngkcmfeaaDoorRows.lean that lists a variable, with what it lists TIED to the program's text (the seventh form; the later family's looks); each row that meets fmt, with fmt's text TOLD by the authors' own Lean function (tested against real Go, not proved from fmt's source: count such statements apart). THE CARD IS WHAT COUNTS. Prove the row's statement (the work); the ties are given (YtmbflfngkcmfeaaDoorTie.lean); close each card by the builder's one call (the guide's Derived/Test/ToyasCard.lean, 'card_holds'). Laid BY PROGRAM, IN A SANDBOX (cutbox-door.mjs). By AI agents, Wed Nov 11 2026. No macro, syntax, notation, axiom, sorry.
-/
import Derived.Test.YtmbflfngkcmfeaaDoorRows
import GoSem.ClaimSeven
namespace Go.Proofs.YtmbflfngkcmfeaaDoor
namespace Rows

/-- THE TIED CARD OF 'deliberationlaw22.DegreeLeast'. -/
def degreeLeastCard : Claim7 := { stood := { row := degreeLeastRow, standIns := [], harness := (true, "c355f0333a9584bdca7ce3327f32d818687f3f44bab680be58f3c886dd1e6174"), looks := false }, kinds := [], alts := [], laidByText := true, laidKinds := [.data], laidTests := true, laidLooks := .later }
def DegreeLeastCardSaid : Prop := Claim7.holds Tryd.pinned (.plain (OpenSpec.ofChange degreeLeastSpec)) degreeLeastCard

/-- THE TIED CARD OF 'deliberationlaw22.DegreeStrengths'. -/
def degreeStrengthsCard : Claim7 := { stood := { row := degreeStrengthsRow, standIns := [], harness := (true, "c355f0333a9584bdca7ce3327f32d818687f3f44bab680be58f3c886dd1e6174"), looks := false }, kinds := [], alts := [], laidByText := true, laidKinds := [.data], laidTests := true, laidLooks := .later }
def DegreeStrengthsCardSaid : Prop := Claim7.holds Tryd.pinned (.plain (OpenSpec.ofChange degreeStrengthsSpec)) degreeStrengthsCard

/-- THE TIED CARD OF 'deliberationlaw22.DegreeEquation'. -/
def degreeEquationCard : Claim7 := { stood := { row := degreeEquationRow, standIns := [], harness := (true, "c355f0333a9584bdca7ce3327f32d818687f3f44bab680be58f3c886dd1e6174"), looks := false }, kinds := [], alts := [], laidByText := true, laidKinds := [.data], laidTests := true, laidLooks := .later }
def DegreeEquationCardSaid : Prop := Claim7.holds Tryd.pinned (.plain (OpenSpec.ofChange degreeEquationSpec)) degreeEquationCard

/-- THE TIED CARD OF 'deliberationlaw22.DegreeWeaker'. -/
def degreeWeakerCard : Claim7 := { stood := { row := degreeWeakerRow, standIns := [], harness := (true, "c355f0333a9584bdca7ce3327f32d818687f3f44bab680be58f3c886dd1e6174"), looks := false }, kinds := [], alts := [], laidByText := true, laidKinds := [.data], laidTests := true, laidLooks := .later }
def DegreeWeakerCardSaid : Prop := Claim7.holds Tryd.pinned (.plain (OpenSpec.ofChange degreeWeakerSpec)) degreeWeakerCard

/-- THE TIED CARD OF 'deliberationlaw22.DegreeAnswers'. -/
def degreeAnswersCard : Claim7 := { stood := { row := degreeAnswersRow, standIns := [], harness := (true, "c355f0333a9584bdca7ce3327f32d818687f3f44bab680be58f3c886dd1e6174"), looks := false }, kinds := [], alts := [], laidByText := true, laidKinds := [.data], laidTests := true, laidLooks := .later }
def DegreeAnswersCardSaid : Prop := Claim7.holds Tryd.pinned (.plain (OpenSpec.ofChange degreeAnswersSpec)) degreeAnswersCard

/-- THE TIED CARD OF 'deliberationlaw22.DegreeThresholds'. -/
def degreeThresholdsCard : Claim7 := { stood := { row := degreeThresholdsRow, standIns := [], harness := (true, "c355f0333a9584bdca7ce3327f32d818687f3f44bab680be58f3c886dd1e6174"), looks := false }, kinds := [], alts := [], laidByText := true, laidKinds := [.data], laidTests := true, laidLooks := .later }
def DegreeThresholdsCardSaid : Prop := Claim7.holds Tryd.pinned (.plain (OpenSpec.ofChange degreeThresholdsSpec)) degreeThresholdsCard

/-- THE SECOND FORM's CARD OF 'deliberationlaw22.DegreeLeast'. -/
def degreeLeastUptoCard : Claim7 := { stood := { row := degreeLeastUptoRow, standIns := [], harness := (true, "c355f0333a9584bdca7ce3327f32d818687f3f44bab680be58f3c886dd1e6174"), looks := false }, kinds := [], alts := [], laidByText := true, laidKinds := [.data], laidTests := true, laidLooks := .later }
def DegreeLeastUptoCardSaid : Prop := Claim7.holds Tryd.pinned (.plain (OpenSpec.upto degreeLeastSpec)) degreeLeastUptoCard

/-- THE SECOND FORM's CARD OF 'deliberationlaw22.DegreeStrengths'. -/
def degreeStrengthsUptoCard : Claim7 := { stood := { row := degreeStrengthsUptoRow, standIns := [], harness := (true, "c355f0333a9584bdca7ce3327f32d818687f3f44bab680be58f3c886dd1e6174"), looks := false }, kinds := [], alts := [], laidByText := true, laidKinds := [.data], laidTests := true, laidLooks := .later }
def DegreeStrengthsUptoCardSaid : Prop := Claim7.holds Tryd.pinned (.plain (OpenSpec.upto degreeStrengthsSpec)) degreeStrengthsUptoCard

/-- THE SECOND FORM's CARD OF 'deliberationlaw22.DegreeEquation'. -/
def degreeEquationUptoCard : Claim7 := { stood := { row := degreeEquationUptoRow, standIns := [], harness := (true, "c355f0333a9584bdca7ce3327f32d818687f3f44bab680be58f3c886dd1e6174"), looks := false }, kinds := [], alts := [], laidByText := true, laidKinds := [.data], laidTests := true, laidLooks := .later }
def DegreeEquationUptoCardSaid : Prop := Claim7.holds Tryd.pinned (.plain (OpenSpec.upto degreeEquationSpec)) degreeEquationUptoCard

/-- THE SECOND FORM's CARD OF 'deliberationlaw22.DegreeWeaker'. -/
def degreeWeakerUptoCard : Claim7 := { stood := { row := degreeWeakerUptoRow, standIns := [], harness := (true, "c355f0333a9584bdca7ce3327f32d818687f3f44bab680be58f3c886dd1e6174"), looks := false }, kinds := [], alts := [], laidByText := true, laidKinds := [.data], laidTests := true, laidLooks := .later }
def DegreeWeakerUptoCardSaid : Prop := Claim7.holds Tryd.pinned (.plain (OpenSpec.upto degreeWeakerSpec)) degreeWeakerUptoCard

/-- THE SECOND FORM's CARD OF 'deliberationlaw22.DegreeAnswers'. -/
def degreeAnswersUptoCard : Claim7 := { stood := { row := degreeAnswersUptoRow, standIns := [], harness := (true, "c355f0333a9584bdca7ce3327f32d818687f3f44bab680be58f3c886dd1e6174"), looks := false }, kinds := [], alts := [], laidByText := true, laidKinds := [.data], laidTests := true, laidLooks := .later }
def DegreeAnswersUptoCardSaid : Prop := Claim7.holds Tryd.pinned (.plain (OpenSpec.upto degreeAnswersSpec)) degreeAnswersUptoCard

/-- THE SECOND FORM's CARD OF 'deliberationlaw22.DegreeThresholds'. -/
def degreeThresholdsUptoCard : Claim7 := { stood := { row := degreeThresholdsUptoRow, standIns := [], harness := (true, "c355f0333a9584bdca7ce3327f32d818687f3f44bab680be58f3c886dd1e6174"), looks := false }, kinds := [], alts := [], laidByText := true, laidKinds := [.data], laidTests := true, laidLooks := .later }
def DegreeThresholdsUptoCardSaid : Prop := Claim7.holds Tryd.pinned (.plain (OpenSpec.upto degreeThresholdsSpec)) degreeThresholdsUptoCard
end Rows
end Go.Proofs.YtmbflfngkcmfeaaDoor
