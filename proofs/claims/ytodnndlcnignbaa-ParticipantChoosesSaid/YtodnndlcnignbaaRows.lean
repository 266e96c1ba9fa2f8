/-
  No cell of these rows narrows 'for every input' (looked for: loops, veiled, ifaces, maps, wideKeys, modest, calm, conditions, laid).
  DERIVED. THE GIVEN ROWS OF THIS SEAT. 4 by the template 'for every input the law returns true; each argument reads behind the call as it read before'; 0 by the template 'total and deterministic' (their statements: YtodnndlcnignbaaTotals.lean).
  GIVEN WITH THE SEED: the statements are not yours to turn. If you find one false, say at which input.
  Laid BY PROGRAM, IN A SANDBOX (cutbox-rows.mjs): the forced cells as the released guide's own fill.sh prints them over the translation 72bfac6eb8e7bc84… (all of the seat's roots in one cut). By AI agents, Wed Nov 11 2026. No macro, syntax, notation, axiom, sorry.
-/
import Derived.Test.YtodnndlcnignbaaChecked
import GoSem.Claim
import GoSem.ClaimJoined
import GoSem.ClaimMapViews
import Derived.JoinedTies
import Derived.KernelRfl
namespace Go.Proofs.Ytodnndlcnignbaa
/- THE CELL 'sum', in the pinned program and in every row, IS THE sha256 OF THE DUMP (.gsa) THAT YtodnndlcnignbaaProg.lean LOADS. Nothing in Lean hashes anything: it is a label: what it is worth is what the hold of that sum in a sandbox is worth. -/
noncomputable def Try.pinned : Pinned := { name := "ytodnndlcnignbaa", sum := "72bfac6eb8e7bc840c5346588a13406a01b2ba374aeb228021e978c32b08771d", checked := Try.checked }
namespace Rows
def none {H : Type} : Left H := { results := [], args := [] }

/-- 'deliberationlaw28.ParticipantChooses': WHATEVER THE INPUT: true; the input reads as it did. -/
def participantChoosesSpec : ChangeSpec := { name := "participantChooses", fn := fun _ => fun
  | [d1, d2, d3, d4] => { results := [.lit (.bool true)], args := [d1, d2, d3, d4] }
  | _ => none }
def participantChoosesRow : OpenClaim := { program := "ytodnndlcnignbaa", sum := "72bfac6eb8e7bc840c5346588a13406a01b2ba374aeb228021e978c32b08771d", func := "deliberation/deliberationlaw28.ParticipantChooses", spec := "participantChooses", unfollowed := true, recurses := true, apart := false }
def ParticipantChoosesSaid : Prop := participantChoosesRow.holds Try.pinned (OpenSpec.ofChange participantChoosesSpec)

/-- ITS FALSE NEIGHBOUR: 'it returns false'. Refute it at one input. -/
def participantChoosesWrong : ChangeSpec := { name := "participantChooses", fn := fun _ => fun
  | [d1, d2, d3, d4] => { results := [.lit (.bool false)], args := [d1, d2, d3, d4] }
  | _ => none }
def ParticipantChoosesWrongFalsely : Prop := participantChoosesRow.holds Try.pinned (OpenSpec.ofChange participantChoosesWrong)

/-- 'deliberationlaw28.ParticipantSilent': WHATEVER THE INPUT: true; the input reads as it did. -/
def participantSilentSpec : ChangeSpec := { name := "participantSilent", fn := fun _ => fun
  | [d] => { results := [.lit (.bool true)], args := [d] }
  | _ => none }
def participantSilentRow : OpenClaim := { program := "ytodnndlcnignbaa", sum := "72bfac6eb8e7bc840c5346588a13406a01b2ba374aeb228021e978c32b08771d", func := "deliberation/deliberationlaw28.ParticipantSilent", spec := "participantSilent", unfollowed := true, recurses := true, apart := false }
def ParticipantSilentSaid : Prop := participantSilentRow.holds Try.pinned (OpenSpec.ofChange participantSilentSpec)

/-- ITS FALSE NEIGHBOUR: 'it returns false'. Refute it at one input. -/
def participantSilentWrong : ChangeSpec := { name := "participantSilent", fn := fun _ => fun
  | [d] => { results := [.lit (.bool false)], args := [d] }
  | _ => none }
def ParticipantSilentWrongFalsely : Prop := participantSilentRow.holds Try.pinned (OpenSpec.ofChange participantSilentWrong)

/-- 'deliberationlaw28.ParticipantVerdict': WHATEVER THE INPUT: true; the input reads as it did. -/
def participantVerdictSpec : ChangeSpec := { name := "participantVerdict", fn := fun _ => fun
  | [d] => { results := [.lit (.bool true)], args := [d] }
  | _ => none }
def participantVerdictRow : OpenClaim := { program := "ytodnndlcnignbaa", sum := "72bfac6eb8e7bc840c5346588a13406a01b2ba374aeb228021e978c32b08771d", func := "deliberation/deliberationlaw28.ParticipantVerdict", spec := "participantVerdict", unfollowed := true, recurses := true, apart := false }
def ParticipantVerdictSaid : Prop := participantVerdictRow.holds Try.pinned (OpenSpec.ofChange participantVerdictSpec)

/-- ITS FALSE NEIGHBOUR: 'it returns false'. Refute it at one input. -/
def participantVerdictWrong : ChangeSpec := { name := "participantVerdict", fn := fun _ => fun
  | [d] => { results := [.lit (.bool false)], args := [d] }
  | _ => none }
def ParticipantVerdictWrongFalsely : Prop := participantVerdictRow.holds Try.pinned (OpenSpec.ofChange participantVerdictWrong)

/-- 'deliberationlaw28.ParticipantLoses': WHATEVER THE INPUT: true; the input reads as it did. -/
def participantLosesSpec : ChangeSpec := { name := "participantLoses", fn := fun _ => fun
  | [d] => { results := [.lit (.bool true)], args := [d] }
  | _ => none }
def participantLosesRow : OpenClaim := { program := "ytodnndlcnignbaa", sum := "72bfac6eb8e7bc840c5346588a13406a01b2ba374aeb228021e978c32b08771d", func := "deliberation/deliberationlaw28.ParticipantLoses", spec := "participantLoses", unfollowed := true, recurses := true, apart := false }
def ParticipantLosesSaid : Prop := participantLosesRow.holds Try.pinned (OpenSpec.ofChange participantLosesSpec)

/-- ITS FALSE NEIGHBOUR: 'it returns false'. Refute it at one input. -/
def participantLosesWrong : ChangeSpec := { name := "participantLoses", fn := fun _ => fun
  | [d] => { results := [.lit (.bool false)], args := [d] }
  | _ => none }
def ParticipantLosesWrongFalsely : Prop := participantLosesRow.holds Try.pinned (OpenSpec.ofChange participantLosesWrong)

/- THE SECOND FORM. 'bulk': how many values and letters a reading holds, each counted each time it is reached (what is shared counts as often as it is met; a slice's spare places count too). A statement '..UptoSaid' is the law's where the arguments, and the package variables that the reading takes, are together of bulk at most 1048576: NARROWER than '..Said'. Prove '..Said' where nothing that the law and all that it calls make is longer than what came in: it says more and counts as full. Else prove '..UptoSaid'. A law counts once. -/
mutual
def uptoBulk {H : Type} : DataW H → Nat
  | .lit (.string bytes) => bytes.length + 1
  | .lit _ => 1
  | .nil => 1
  | .ptr d => uptoBulk d + 1
  | .slice elems spare => uptoBulkAll elems + uptoBulkAll spare + 1
  | .agg parts => uptoBulkAll parts + 1
  | .iface _ d => uptoBulk d + 1
  | .map entries => uptoBulkEntries entries + 1
  | .held _ => 1
def uptoBulkAll {H : Type} : List (DataW H) → Nat
  | [] => 0
  | d :: r => uptoBulk d + uptoBulkAll r
def uptoBulkEntries {H : Type} : List (Lit × DataW H) → Nat
  | [] => 0
  | x :: r => uptoBulkEntry x + uptoBulkEntries r
def uptoBulkEntry {H : Type} : Lit × DataW H → Nat
  | (.string bytes, d) => bytes.length + uptoBulk d + 1
  | (_, d) => uptoBulk d + 1
 end
def uptoSmall : (H : Type) → List (DataW H) → Bool := fun _ ds => decide (uptoBulkAll ds ≤ 1048576)
def OpenSpec.upto (s : _root_.Go.ChangeSpec) : _root_.Go.OpenSpec := { _root_.Go.OpenSpec.ofChange s with cond := some uptoSmall }

/-- 'deliberationlaw28.ParticipantChooses', WHERE WHAT IT READS IS OF BULK AT MOST 1048576: true; the input reads as it did. -/
def participantChoosesUptoRow : OpenClaim := { program := "ytodnndlcnignbaa", sum := "72bfac6eb8e7bc840c5346588a13406a01b2ba374aeb228021e978c32b08771d", func := "deliberation/deliberationlaw28.ParticipantChooses", spec := "participantChooses", unfollowed := true, recurses := true, apart := false, narrowed := true }
def ParticipantChoosesUptoSaid : Prop := participantChoosesUptoRow.holds Try.pinned (OpenSpec.upto participantChoosesSpec)

/-- 'deliberationlaw28.ParticipantSilent', WHERE WHAT IT READS IS OF BULK AT MOST 1048576: true; the input reads as it did. -/
def participantSilentUptoRow : OpenClaim := { program := "ytodnndlcnignbaa", sum := "72bfac6eb8e7bc840c5346588a13406a01b2ba374aeb228021e978c32b08771d", func := "deliberation/deliberationlaw28.ParticipantSilent", spec := "participantSilent", unfollowed := true, recurses := true, apart := false, narrowed := true }
def ParticipantSilentUptoSaid : Prop := participantSilentUptoRow.holds Try.pinned (OpenSpec.upto participantSilentSpec)

/-- 'deliberationlaw28.ParticipantVerdict', WHERE WHAT IT READS IS OF BULK AT MOST 1048576: true; the input reads as it did. -/
def participantVerdictUptoRow : OpenClaim := { program := "ytodnndlcnignbaa", sum := "72bfac6eb8e7bc840c5346588a13406a01b2ba374aeb228021e978c32b08771d", func := "deliberation/deliberationlaw28.ParticipantVerdict", spec := "participantVerdict", unfollowed := true, recurses := true, apart := false, narrowed := true }
def ParticipantVerdictUptoSaid : Prop := participantVerdictUptoRow.holds Try.pinned (OpenSpec.upto participantVerdictSpec)

/-- 'deliberationlaw28.ParticipantLoses', WHERE WHAT IT READS IS OF BULK AT MOST 1048576: true; the input reads as it did. -/
def participantLosesUptoRow : OpenClaim := { program := "ytodnndlcnignbaa", sum := "72bfac6eb8e7bc840c5346588a13406a01b2ba374aeb228021e978c32b08771d", func := "deliberation/deliberationlaw28.ParticipantLoses", spec := "participantLoses", unfollowed := true, recurses := true, apart := false, narrowed := true }
def ParticipantLosesUptoSaid : Prop := participantLosesUptoRow.holds Try.pinned (OpenSpec.upto participantLosesSpec)

end Rows
end Go.Proofs.Ytodnndlcnignbaa
