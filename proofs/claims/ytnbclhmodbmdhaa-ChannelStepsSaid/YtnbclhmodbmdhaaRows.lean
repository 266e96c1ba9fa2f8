/-
  No cell of these rows narrows 'for every input' (looked for: loops, veiled, ifaces, maps, wideKeys, modest, calm, conditions, laid).
  DERIVED. THE GIVEN ROWS OF THIS SEAT. 4 by the template 'for every input the law returns true; each argument reads behind the call as it read before'; 0 by the template 'total and deterministic' (their statements: YtnbclhmodbmdhaaTotals.lean).
  GIVEN WITH THE SEED: the statements are not yours to turn. If you find one false, say at which input.
  Laid BY PROGRAM, IN A SANDBOX (cutbox-rows.mjs): the forced cells as the released guide's own fill.sh prints them over the translation 4d89c3c1f4fe28c2… (all of the seat's roots in one cut). By AI agents, Wed Nov 11 2026. No macro, syntax, notation, axiom, sorry.
-/
import Derived.Test.YtnbclhmodbmdhaaChecked
import GoSem.Claim
import GoSem.ClaimJoined
import GoSem.ClaimMapViews
import Derived.JoinedTies
import Derived.KernelRfl
namespace Go.Proofs.Ytnbclhmodbmdhaa
/- THE CELL 'sum', in the pinned program and in every row, IS THE sha256 OF THE DUMP (.gsa) THAT YtnbclhmodbmdhaaProg.lean LOADS. Nothing in Lean hashes anything: it is a label: what it is worth is what the hold of that sum in a sandbox is worth. -/
noncomputable def Try.pinned : Pinned := { name := "ytnbclhmodbmdhaa", sum := "4d89c3c1f4fe28c25816df8f107cfdbe266bad4f551c4bbc3b76705c924a68f4", checked := Try.checked }
namespace Rows
def none {H : Type} : Left H := { results := [], args := [] }

/-- 'deliberationlaw29.ChannelPrefix': WHATEVER THE INPUT: true; the input reads as it did. -/
def channelPrefixSpec : ChangeSpec := { name := "channelPrefix", fn := fun _ => fun
  | [d1, d2] => { results := [.lit (.bool true)], args := [d1, d2] }
  | _ => none }
def channelPrefixRow : OpenClaim := { program := "ytnbclhmodbmdhaa", sum := "4d89c3c1f4fe28c25816df8f107cfdbe266bad4f551c4bbc3b76705c924a68f4", func := "deliberation/deliberationlaw29.ChannelPrefix", spec := "channelPrefix", inPlace := ["slices.overlaps[deliberation/api.Packet]"], unfollowed := true, recurses := true, apart := false }
def ChannelPrefixSaid : Prop := channelPrefixRow.holds Try.pinned (OpenSpec.ofChange channelPrefixSpec)

/-- ITS FALSE NEIGHBOUR: 'it returns false'. Refute it at one input. -/
def channelPrefixWrong : ChangeSpec := { name := "channelPrefix", fn := fun _ => fun
  | [d1, d2] => { results := [.lit (.bool false)], args := [d1, d2] }
  | _ => none }
def ChannelPrefixWrongFalsely : Prop := channelPrefixRow.holds Try.pinned (OpenSpec.ofChange channelPrefixWrong)

/-- 'deliberationlaw29.ChannelRepeats': WHATEVER THE INPUT: true; the input reads as it did. -/
def channelRepeatsSpec : ChangeSpec := { name := "channelRepeats", fn := fun _ => fun
  | [d1, d2] => { results := [.lit (.bool true)], args := [d1, d2] }
  | _ => none }
def channelRepeatsRow : OpenClaim := { program := "ytnbclhmodbmdhaa", sum := "4d89c3c1f4fe28c25816df8f107cfdbe266bad4f551c4bbc3b76705c924a68f4", func := "deliberation/deliberationlaw29.ChannelRepeats", spec := "channelRepeats", inPlace := ["slices.overlaps[deliberation/api.Packet]"], unfollowed := true, recurses := true, apart := false }
def ChannelRepeatsSaid : Prop := channelRepeatsRow.holds Try.pinned (OpenSpec.ofChange channelRepeatsSpec)

/-- ITS FALSE NEIGHBOUR: 'it returns false'. Refute it at one input. -/
def channelRepeatsWrong : ChangeSpec := { name := "channelRepeats", fn := fun _ => fun
  | [d1, d2] => { results := [.lit (.bool false)], args := [d1, d2] }
  | _ => none }
def ChannelRepeatsWrongFalsely : Prop := channelRepeatsRow.holds Try.pinned (OpenSpec.ofChange channelRepeatsWrong)

/-- 'deliberationlaw29.ChannelFinishes': WHATEVER THE INPUT: true; the input reads as it did. -/
def channelFinishesSpec : ChangeSpec := { name := "channelFinishes", fn := fun _ => fun
  | [d1, d2] => { results := [.lit (.bool true)], args := [d1, d2] }
  | _ => none }
def channelFinishesRow : OpenClaim := { program := "ytnbclhmodbmdhaa", sum := "4d89c3c1f4fe28c25816df8f107cfdbe266bad4f551c4bbc3b76705c924a68f4", func := "deliberation/deliberationlaw29.ChannelFinishes", spec := "channelFinishes", inPlace := ["slices.overlaps[deliberation/api.Packet]"], unfollowed := true, recurses := true, apart := false }
def ChannelFinishesSaid : Prop := channelFinishesRow.holds Try.pinned (OpenSpec.ofChange channelFinishesSpec)

/-- ITS FALSE NEIGHBOUR: 'it returns false'. Refute it at one input. -/
def channelFinishesWrong : ChangeSpec := { name := "channelFinishes", fn := fun _ => fun
  | [d1, d2] => { results := [.lit (.bool false)], args := [d1, d2] }
  | _ => none }
def ChannelFinishesWrongFalsely : Prop := channelFinishesRow.holds Try.pinned (OpenSpec.ofChange channelFinishesWrong)

/-- 'deliberationlaw29.ChannelSteps': WHATEVER THE INPUT: true; the input reads as it did. -/
def channelStepsSpec : ChangeSpec := { name := "channelSteps", fn := fun _ => fun
  | [d1, d2, d3, d4] => { results := [.lit (.bool true)], args := [d1, d2, d3, d4] }
  | _ => none }
def channelStepsRow : OpenClaim := { program := "ytnbclhmodbmdhaa", sum := "4d89c3c1f4fe28c25816df8f107cfdbe266bad4f551c4bbc3b76705c924a68f4", func := "deliberation/deliberationlaw29.ChannelSteps", spec := "channelSteps", inPlace := ["slices.overlaps[deliberation/api.Packet]"], unfollowed := true, recurses := true, apart := false }
def ChannelStepsSaid : Prop := channelStepsRow.holds Try.pinned (OpenSpec.ofChange channelStepsSpec)

/-- ITS FALSE NEIGHBOUR: 'it returns false'. Refute it at one input. -/
def channelStepsWrong : ChangeSpec := { name := "channelSteps", fn := fun _ => fun
  | [d1, d2, d3, d4] => { results := [.lit (.bool false)], args := [d1, d2, d3, d4] }
  | _ => none }
def ChannelStepsWrongFalsely : Prop := channelStepsRow.holds Try.pinned (OpenSpec.ofChange channelStepsWrong)

/- THE SECOND FORM. 'bulk': how many values and letters a reading holds, each counted each time it is reached (what is shared counts as often as it is met; a slice's spare places count too). A statement '..UptoSaid' is the law's where the arguments, and the package variables that the reading takes, are together of bulk at most 1048576: NARROWER than '..Said'. Prove '..Said' where nothing that the law and all that it calls make is longer than what came in: it says more and counts as full. Else prove '..UptoSaid'. A law counts once. -/
mutual
def uptoBulk {H : Type} : DataW H → Nat
  | .lit (.string bytes) => bytes.length + 1
  | .lit _ => 1
  | .nil => 1
  | .ptr d => uptoBulk d + 1
  | .slice elems spare => uptoBulkAll elems + uptoBulkAll spare + 1
  | .agg parts => uptoBulkAll parts + 1
  | .iface _ d => uptoBulk d + 1
  | .map entries => uptoBulkEntries entries + 1
  | .held _ => 1
def uptoBulkAll {H : Type} : List (DataW H) → Nat
  | [] => 0
  | d :: r => uptoBulk d + uptoBulkAll r
def uptoBulkEntries {H : Type} : List (Lit × DataW H) → Nat
  | [] => 0
  | x :: r => uptoBulkEntry x + uptoBulkEntries r
def uptoBulkEntry {H : Type} : Lit × DataW H → Nat
  | (.string bytes, d) => bytes.length + uptoBulk d + 1
  | (_, d) => uptoBulk d + 1
 end
def uptoSmall : (H : Type) → List (DataW H) → Bool := fun _ ds => decide (uptoBulkAll ds ≤ 1048576)
def OpenSpec.upto (s : _root_.Go.ChangeSpec) : _root_.Go.OpenSpec := { _root_.Go.OpenSpec.ofChange s with cond := some uptoSmall }

/-- 'deliberationlaw29.ChannelPrefix', WHERE WHAT IT READS IS OF BULK AT MOST 1048576: true; the input reads as it did. -/
def channelPrefixUptoRow : OpenClaim := { program := "ytnbclhmodbmdhaa", sum := "4d89c3c1f4fe28c25816df8f107cfdbe266bad4f551c4bbc3b76705c924a68f4", func := "deliberation/deliberationlaw29.ChannelPrefix", spec := "channelPrefix", inPlace := ["slices.overlaps[deliberation/api.Packet]"], unfollowed := true, recurses := true, apart := false, narrowed := true }
def ChannelPrefixUptoSaid : Prop := channelPrefixUptoRow.holds Try.pinned (OpenSpec.upto channelPrefixSpec)

/-- 'deliberationlaw29.ChannelRepeats', WHERE WHAT IT READS IS OF BULK AT MOST 1048576: true; the input reads as it did. -/
def channelRepeatsUptoRow : OpenClaim := { program := "ytnbclhmodbmdhaa", sum := "4d89c3c1f4fe28c25816df8f107cfdbe266bad4f551c4bbc3b76705c924a68f4", func := "deliberation/deliberationlaw29.ChannelRepeats", spec := "channelRepeats", inPlace := ["slices.overlaps[deliberation/api.Packet]"], unfollowed := true, recurses := true, apart := false, narrowed := true }
def ChannelRepeatsUptoSaid : Prop := channelRepeatsUptoRow.holds Try.pinned (OpenSpec.upto channelRepeatsSpec)

/-- 'deliberationlaw29.ChannelFinishes', WHERE WHAT IT READS IS OF BULK AT MOST 1048576: true; the input reads as it did. -/
def channelFinishesUptoRow : OpenClaim := { program := "ytnbclhmodbmdhaa", sum := "4d89c3c1f4fe28c25816df8f107cfdbe266bad4f551c4bbc3b76705c924a68f4", func := "deliberation/deliberationlaw29.ChannelFinishes", spec := "channelFinishes", inPlace := ["slices.overlaps[deliberation/api.Packet]"], unfollowed := true, recurses := true, apart := false, narrowed := true }
def ChannelFinishesUptoSaid : Prop := channelFinishesUptoRow.holds Try.pinned (OpenSpec.upto channelFinishesSpec)

/-- 'deliberationlaw29.ChannelSteps', WHERE WHAT IT READS IS OF BULK AT MOST 1048576: true; the input reads as it did. -/
def channelStepsUptoRow : OpenClaim := { program := "ytnbclhmodbmdhaa", sum := "4d89c3c1f4fe28c25816df8f107cfdbe266bad4f551c4bbc3b76705c924a68f4", func := "deliberation/deliberationlaw29.ChannelSteps", spec := "channelSteps", inPlace := ["slices.overlaps[deliberation/api.Packet]"], unfollowed := true, recurses := true, apart := false, narrowed := true }
def ChannelStepsUptoSaid : Prop := channelStepsUptoRow.holds Try.pinned (OpenSpec.upto channelStepsSpec)

end Rows
end Go.Proofs.Ytnbclhmodbmdhaa
