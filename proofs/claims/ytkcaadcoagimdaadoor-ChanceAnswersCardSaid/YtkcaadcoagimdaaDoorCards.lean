/-
  DERIVED. GIVEN WITH THE SEED: THE CARDS: each row of YtkcaadcoagimdaaDoorRows.lean that lists a variable, with what it lists TIED to the program's text (the seventh form; the later family's looks); each row that meets fmt, with fmt's text TOLD by the authors' own Lean function (tested against real Go, not proved from fmt's source: count such statements apart). THE CARD IS WHAT COUNTS. Prove the row's statement (the work); the ties are given (YtkcaadcoagimdaaDoorTie.lean); close each card by the builder's one call (the guide's Derived/Test/ToyasCard.lean, 'card_holds'). Laid BY PROGRAM, IN A SANDBOX (cutbox-door.mjs). By AI agents, Wed Nov 11 2026. No macro, syntax, notation, axiom, sorry.
-/
import Derived.Test.YtkcaadcoagimdaaDoorRows
import GoSem.ClaimSeven
namespace Go.Proofs.YtkcaadcoagimdaaDoor
namespace Rows

/-- THE TIED CARD OF 'deliberationlaw23.ChanceProduct'. -/
def chanceProductCard : Claim7 := { stood := { row := chanceProductRow, standIns := [], harness := (true, "a95f521fae3aaa6c29004b8e60f52079b8fb91c68f32b11fe82d06f22e22d279"), looks := false }, kinds := [], alts := [], laidByText := true, laidKinds := [.data], laidTests := true, laidLooks := .later }
def ChanceProductCardSaid : Prop := Claim7.holds Tryd.pinned (.plain (OpenSpec.ofChange chanceProductSpec)) chanceProductCard

/-- THE TIED CARD OF 'deliberationlaw23.ChanceWhole'. -/
def chanceWholeCard : Claim7 := { stood := { row := chanceWholeRow, standIns := [], harness := (true, "a95f521fae3aaa6c29004b8e60f52079b8fb91c68f32b11fe82d06f22e22d279"), looks := false }, kinds := [], alts := [], laidByText := true, laidKinds := [.data], laidTests := true, laidLooks := .later }
def ChanceWholeCardSaid : Prop := Claim7.holds Tryd.pinned (.plain (OpenSpec.ofChange chanceWholeSpec)) chanceWholeCard

/-- THE TIED CARD OF 'deliberationlaw23.ChanceCertain'. -/
def chanceCertainCard : Claim7 := { stood := { row := chanceCertainRow, standIns := [], harness := (true, "a95f521fae3aaa6c29004b8e60f52079b8fb91c68f32b11fe82d06f22e22d279"), looks := false }, kinds := [], alts := [], laidByText := true, laidKinds := [.data], laidTests := true, laidLooks := .later }
def ChanceCertainCardSaid : Prop := Claim7.holds Tryd.pinned (.plain (OpenSpec.ofChange chanceCertainSpec)) chanceCertainCard

/-- THE TIED CARD OF 'deliberationlaw23.ChanceAnswers'. -/
def chanceAnswersCard : Claim7 := { stood := { row := chanceAnswersRow, standIns := [], harness := (true, "a95f521fae3aaa6c29004b8e60f52079b8fb91c68f32b11fe82d06f22e22d279"), looks := false }, kinds := [], alts := [], laidByText := true, laidKinds := [.data], laidTests := true, laidLooks := .later }
def ChanceAnswersCardSaid : Prop := Claim7.holds Tryd.pinned (.plain (OpenSpec.ofChange chanceAnswersSpec)) chanceAnswersCard

/-- THE SECOND FORM's CARD OF 'deliberationlaw23.ChanceProduct'. -/
def chanceProductUptoCard : Claim7 := { stood := { row := chanceProductUptoRow, standIns := [], harness := (true, "a95f521fae3aaa6c29004b8e60f52079b8fb91c68f32b11fe82d06f22e22d279"), looks := false }, kinds := [], alts := [], laidByText := true, laidKinds := [.data], laidTests := true, laidLooks := .later }
def ChanceProductUptoCardSaid : Prop := Claim7.holds Tryd.pinned (.plain (OpenSpec.upto chanceProductSpec)) chanceProductUptoCard

/-- THE SECOND FORM's CARD OF 'deliberationlaw23.ChanceWhole'. -/
def chanceWholeUptoCard : Claim7 := { stood := { row := chanceWholeUptoRow, standIns := [], harness := (true, "a95f521fae3aaa6c29004b8e60f52079b8fb91c68f32b11fe82d06f22e22d279"), looks := false }, kinds := [], alts := [], laidByText := true, laidKinds := [.data], laidTests := true, laidLooks := .later }
def ChanceWholeUptoCardSaid : Prop := Claim7.holds Tryd.pinned (.plain (OpenSpec.upto chanceWholeSpec)) chanceWholeUptoCard

/-- THE SECOND FORM's CARD OF 'deliberationlaw23.ChanceCertain'. -/
def chanceCertainUptoCard : Claim7 := { stood := { row := chanceCertainUptoRow, standIns := [], harness := (true, "a95f521fae3aaa6c29004b8e60f52079b8fb91c68f32b11fe82d06f22e22d279"), looks := false }, kinds := [], alts := [], laidByText := true, laidKinds := [.data], laidTests := true, laidLooks := .later }
def ChanceCertainUptoCardSaid : Prop := Claim7.holds Tryd.pinned (.plain (OpenSpec.upto chanceCertainSpec)) chanceCertainUptoCard

/-- THE SECOND FORM's CARD OF 'deliberationlaw23.ChanceAnswers'. -/
def chanceAnswersUptoCard : Claim7 := { stood := { row := chanceAnswersUptoRow, standIns := [], harness := (true, "a95f521fae3aaa6c29004b8e60f52079b8fb91c68f32b11fe82d06f22e22d279"), looks := false }, kinds := [], alts := [], laidByText := true, laidKinds := [.data], laidTests := true, laidLooks := .later }
def ChanceAnswersUptoCardSaid : Prop := Claim7.holds Tryd.pinned (.plain (OpenSpec.upto chanceAnswersSpec)) chanceAnswersUptoCard
end Rows
end Go.Proofs.YtkcaadcoagimdaaDoor
