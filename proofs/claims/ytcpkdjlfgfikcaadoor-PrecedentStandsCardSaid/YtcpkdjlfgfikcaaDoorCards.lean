/-
  DERIVED. GIVEN WITH THE SEED: THE CARDS: each row of YtcpkdjlfgfikcaaDoorRows.lean that lists a variable, with what it lists TIED to the program's text (the seventh form; the later family's looks); each row that meets fmt, with fmt's text TOLD by the authors' own Lean function (tested against real Go, not proved from fmt's source: count such statements apart). THE CARD IS WHAT COUNTS. Prove the row's statement (the work); the ties are given (YtcpkdjlfgfikcaaDoorTie.lean); close each card by the builder's one call (the guide's Derived/Test/ToyasCard.lean, 'card_holds'). Laid BY PROGRAM, IN A SANDBOX (cutbox-door.mjs). By AI agents, Wed Nov 11 2026. No macro, syntax, notation, axiom, sorry.
-/
import Derived.Test.YtcpkdjlfgfikcaaDoorRows
import GoSem.ClaimSeven
namespace Go.Proofs.YtcpkdjlfgfikcaaDoor
namespace Rows

/-- THE TIED CARD OF 'deliberationlaw38.PrecedentForces'. -/
def precedentForcesCard : Claim7 := { stood := { row := precedentForcesRow, standIns := [], harness := (true, "fbcf47650e590a7a130d358ff483ef7448a9b3d5680bce557f9a32324f7461be"), looks := false }, kinds := [], alts := [], laidByText := true, laidKinds := [.data], laidTests := true, laidLooks := .later }
def PrecedentForcesCardSaid : Prop := Claim7.holds Tryd.pinned (.plain (OpenSpec.ofChange precedentForcesSpec)) precedentForcesCard

/-- THE TIED CARD OF 'deliberationlaw38.PrecedentMore'. -/
def precedentMoreCard : Claim7 := { stood := { row := precedentMoreRow, standIns := [], harness := (true, "fbcf47650e590a7a130d358ff483ef7448a9b3d5680bce557f9a32324f7461be"), looks := false }, kinds := [], alts := [], laidByText := true, laidKinds := [.data], laidTests := true, laidLooks := .later }
def PrecedentMoreCardSaid : Prop := Claim7.holds Tryd.pinned (.plain (OpenSpec.ofChange precedentMoreSpec)) precedentMoreCard

/-- THE TIED CARD OF 'deliberationlaw38.PrecedentStands'. -/
def precedentStandsCard : Claim7 := { stood := { row := precedentStandsRow, standIns := [], harness := (true, "fbcf47650e590a7a130d358ff483ef7448a9b3d5680bce557f9a32324f7461be"), looks := false }, kinds := [], alts := [], laidByText := true, laidKinds := [.data], laidTests := true, laidLooks := .later }
def PrecedentStandsCardSaid : Prop := Claim7.holds Tryd.pinned (.plain (OpenSpec.ofChange precedentStandsSpec)) precedentStandsCard

/-- THE TIED CARD OF 'deliberationlaw38.PrecedentConsistent'. -/
def precedentConsistentCard : Claim7 := { stood := { row := precedentConsistentRow, standIns := [], harness := (true, "fbcf47650e590a7a130d358ff483ef7448a9b3d5680bce557f9a32324f7461be"), looks := false }, kinds := [], alts := [], laidByText := true, laidKinds := [.data], laidTests := true, laidLooks := .later }
def PrecedentConsistentCardSaid : Prop := Claim7.holds Tryd.pinned (.plain (OpenSpec.ofChange precedentConsistentSpec)) precedentConsistentCard

/-- THE SECOND FORM's CARD OF 'deliberationlaw38.PrecedentForces'. -/
def precedentForcesUptoCard : Claim7 := { stood := { row := precedentForcesUptoRow, standIns := [], harness := (true, "fbcf47650e590a7a130d358ff483ef7448a9b3d5680bce557f9a32324f7461be"), looks := false }, kinds := [], alts := [], laidByText := true, laidKinds := [.data], laidTests := true, laidLooks := .later }
def PrecedentForcesUptoCardSaid : Prop := Claim7.holds Tryd.pinned (.plain (OpenSpec.upto precedentForcesSpec)) precedentForcesUptoCard

/-- THE SECOND FORM's CARD OF 'deliberationlaw38.PrecedentMore'. -/
def precedentMoreUptoCard : Claim7 := { stood := { row := precedentMoreUptoRow, standIns := [], harness := (true, "fbcf47650e590a7a130d358ff483ef7448a9b3d5680bce557f9a32324f7461be"), looks := false }, kinds := [], alts := [], laidByText := true, laidKinds := [.data], laidTests := true, laidLooks := .later }
def PrecedentMoreUptoCardSaid : Prop := Claim7.holds Tryd.pinned (.plain (OpenSpec.upto precedentMoreSpec)) precedentMoreUptoCard

/-- THE SECOND FORM's CARD OF 'deliberationlaw38.PrecedentStands'. -/
def precedentStandsUptoCard : Claim7 := { stood := { row := precedentStandsUptoRow, standIns := [], harness := (true, "fbcf47650e590a7a130d358ff483ef7448a9b3d5680bce557f9a32324f7461be"), looks := false }, kinds := [], alts := [], laidByText := true, laidKinds := [.data], laidTests := true, laidLooks := .later }
def PrecedentStandsUptoCardSaid : Prop := Claim7.holds Tryd.pinned (.plain (OpenSpec.upto precedentStandsSpec)) precedentStandsUptoCard

/-- THE SECOND FORM's CARD OF 'deliberationlaw38.PrecedentConsistent'. -/
def precedentConsistentUptoCard : Claim7 := { stood := { row := precedentConsistentUptoRow, standIns := [], harness := (true, "fbcf47650e590a7a130d358ff483ef7448a9b3d5680bce557f9a32324f7461be"), looks := false }, kinds := [], alts := [], laidByText := true, laidKinds := [.data], laidTests := true, laidLooks := .later }
def PrecedentConsistentUptoCardSaid : Prop := Claim7.holds Tryd.pinned (.plain (OpenSpec.upto precedentConsistentSpec)) precedentConsistentUptoCard
end Rows
end Go.Proofs.YtcpkdjlfgfikcaaDoor
