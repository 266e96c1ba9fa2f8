/-
  DERIVED. GIVEN WITH THE SEED: THE CARDS: each row of YtccalnbiapifcaaDoorRows.lean that lists a variable, with what it lists TIED to the program's text (the seventh form; the later family's looks); each row that meets fmt, with fmt's text TOLD by the authors' own Lean function (tested against real Go, not proved from fmt's source: count such statements apart). THE CARD IS WHAT COUNTS. Prove the row's statement (the work); the ties are given (YtccalnbiapifcaaDoorTie.lean); close each card by the builder's one call (the guide's Derived/Test/ToyasCard.lean, 'card_holds'). Laid BY PROGRAM, IN A SANDBOX (cutbox-door.mjs). By AI agents, Wed Nov 11 2026. No macro, syntax, notation, axiom, sorry.
-/
import Derived.Test.YtccalnbiapifcaaDoorRows
import GoSem.ClaimSeven
namespace Go.Proofs.YtccalnbiapifcaaDoor
namespace Rows

/-- THE TIED CARD OF 'deliberationlaw04.ProofValidates'. -/
def proofValidatesCard : Claim7 := { stood := { row := proofValidatesRow, standIns := [], harness := (true, "49b5999b3f7fa94571b5c90419b352b8444f176624cb3d42c0999762a8382a5b"), looks := false }, kinds := [], alts := [], laidByText := true, laidKinds := [.data, .data, .data], laidTests := true, laidLooks := .later }
def ProofValidatesCardSaid : Prop := Claim7.holds Tryd.pinned (.plain (OpenSpec.ofChange proofValidatesSpec)) proofValidatesCard

/-- THE TIED CARD OF 'deliberationlaw04.ProofResolves'. -/
def proofResolvesCard : Claim7 := { stood := { row := proofResolvesRow, standIns := [], harness := (true, "49b5999b3f7fa94571b5c90419b352b8444f176624cb3d42c0999762a8382a5b"), looks := false }, kinds := [], alts := [], laidByText := true, laidKinds := [.data, .data, .data], laidTests := true, laidLooks := .later }
def ProofResolvesCardSaid : Prop := Claim7.holds Tryd.pinned (.plain (OpenSpec.ofChange proofResolvesSpec)) proofResolvesCard

/-- THE TIED CARD OF 'deliberationlaw04.ProofSound'. -/
def proofSoundCard : Claim7 := { stood := { row := proofSoundRow, standIns := [], harness := (true, "49b5999b3f7fa94571b5c90419b352b8444f176624cb3d42c0999762a8382a5b"), looks := false }, kinds := [], alts := [], laidByText := true, laidKinds := [.data, .data, .data], laidTests := true, laidLooks := .later }
def ProofSoundCardSaid : Prop := Claim7.holds Tryd.pinned (.plain (OpenSpec.ofChange proofSoundSpec)) proofSoundCard

/-- THE TIED CARD OF 'deliberationlaw04.ProofSolves'. -/
def proofSolvesCard : Claim7 := { stood := { row := proofSolvesRow, standIns := [], harness := (true, "49b5999b3f7fa94571b5c90419b352b8444f176624cb3d42c0999762a8382a5b"), looks := false }, kinds := [], alts := [], laidByText := true, laidKinds := [.data, .data, .data], laidTests := true, laidLooks := .later }
def ProofSolvesCardSaid : Prop := Claim7.holds Tryd.pinned (.plain (OpenSpec.ofChange proofSolvesSpec)) proofSolvesCard

/-- THE TIED CARD OF 'deliberationlaw04.ProofComplete'. -/
def proofCompleteCard : Claim7 := { stood := { row := proofCompleteRow, standIns := [], harness := (true, "49b5999b3f7fa94571b5c90419b352b8444f176624cb3d42c0999762a8382a5b"), looks := false }, kinds := [], alts := [], laidByText := true, laidKinds := [.data, .data, .data], laidTests := true, laidLooks := .later }
def ProofCompleteCardSaid : Prop := Claim7.holds Tryd.pinned (.plain (OpenSpec.ofChange proofCompleteSpec)) proofCompleteCard

/-- THE TIED CARD OF 'deliberationlaw04.ProofExclusive'. -/
def proofExclusiveCard : Claim7 := { stood := { row := proofExclusiveRow, standIns := [], harness := (true, "49b5999b3f7fa94571b5c90419b352b8444f176624cb3d42c0999762a8382a5b"), looks := false }, kinds := [], alts := [], laidByText := true, laidKinds := [.data, .data, .data], laidTests := true, laidLooks := .later }
def ProofExclusiveCardSaid : Prop := Claim7.holds Tryd.pinned (.plain (OpenSpec.ofChange proofExclusiveSpec)) proofExclusiveCard

/-- THE SECOND FORM's CARD OF 'deliberationlaw04.ProofValidates'. -/
def proofValidatesUptoCard : Claim7 := { stood := { row := proofValidatesUptoRow, standIns := [], harness := (true, "49b5999b3f7fa94571b5c90419b352b8444f176624cb3d42c0999762a8382a5b"), looks := false }, kinds := [], alts := [], laidByText := true, laidKinds := [.data, .data, .data], laidTests := true, laidLooks := .later }
def ProofValidatesUptoCardSaid : Prop := Claim7.holds Tryd.pinned (.plain (OpenSpec.upto proofValidatesSpec)) proofValidatesUptoCard

/-- THE SECOND FORM's CARD OF 'deliberationlaw04.ProofResolves'. -/
def proofResolvesUptoCard : Claim7 := { stood := { row := proofResolvesUptoRow, standIns := [], harness := (true, "49b5999b3f7fa94571b5c90419b352b8444f176624cb3d42c0999762a8382a5b"), looks := false }, kinds := [], alts := [], laidByText := true, laidKinds := [.data, .data, .data], laidTests := true, laidLooks := .later }
def ProofResolvesUptoCardSaid : Prop := Claim7.holds Tryd.pinned (.plain (OpenSpec.upto proofResolvesSpec)) proofResolvesUptoCard

/-- THE SECOND FORM's CARD OF 'deliberationlaw04.ProofSound'. -/
def proofSoundUptoCard : Claim7 := { stood := { row := proofSoundUptoRow, standIns := [], harness := (true, "49b5999b3f7fa94571b5c90419b352b8444f176624cb3d42c0999762a8382a5b"), looks := false }, kinds := [], alts := [], laidByText := true, laidKinds := [.data, .data, .data], laidTests := true, laidLooks := .later }
def ProofSoundUptoCardSaid : Prop := Claim7.holds Tryd.pinned (.plain (OpenSpec.upto proofSoundSpec)) proofSoundUptoCard

/-- THE SECOND FORM's CARD OF 'deliberationlaw04.ProofSolves'. -/
def proofSolvesUptoCard : Claim7 := { stood := { row := proofSolvesUptoRow, standIns := [], harness := (true, "49b5999b3f7fa94571b5c90419b352b8444f176624cb3d42c0999762a8382a5b"), looks := false }, kinds := [], alts := [], laidByText := true, laidKinds := [.data, .data, .data], laidTests := true, laidLooks := .later }
def ProofSolvesUptoCardSaid : Prop := Claim7.holds Tryd.pinned (.plain (OpenSpec.upto proofSolvesSpec)) proofSolvesUptoCard

/-- THE SECOND FORM's CARD OF 'deliberationlaw04.ProofComplete'. -/
def proofCompleteUptoCard : Claim7 := { stood := { row := proofCompleteUptoRow, standIns := [], harness := (true, "49b5999b3f7fa94571b5c90419b352b8444f176624cb3d42c0999762a8382a5b"), looks := false }, kinds := [], alts := [], laidByText := true, laidKinds := [.data, .data, .data], laidTests := true, laidLooks := .later }
def ProofCompleteUptoCardSaid : Prop := Claim7.holds Tryd.pinned (.plain (OpenSpec.upto proofCompleteSpec)) proofCompleteUptoCard

/-- THE SECOND FORM's CARD OF 'deliberationlaw04.ProofExclusive'. -/
def proofExclusiveUptoCard : Claim7 := { stood := { row := proofExclusiveUptoRow, standIns := [], harness := (true, "49b5999b3f7fa94571b5c90419b352b8444f176624cb3d42c0999762a8382a5b"), looks := false }, kinds := [], alts := [], laidByText := true, laidKinds := [.data, .data, .data], laidTests := true, laidLooks := .later }
def ProofExclusiveUptoCardSaid : Prop := Claim7.holds Tryd.pinned (.plain (OpenSpec.upto proofExclusiveSpec)) proofExclusiveUptoCard
end Rows
end Go.Proofs.YtccalnbiapifcaaDoor
