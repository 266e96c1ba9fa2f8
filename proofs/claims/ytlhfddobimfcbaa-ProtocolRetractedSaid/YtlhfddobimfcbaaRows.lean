/-
  No cell of these rows narrows 'for every input' (looked for: loops, veiled, ifaces, maps, wideKeys, modest, calm, conditions, laid).
  DERIVED. THE GIVEN ROWS OF THIS SEAT. 4 by the template 'for every input the law returns true; each argument reads behind the call as it read before'; 0 by the template 'total and deterministic' (their statements: YtlhfddobimfcbaaTotals.lean).
  GIVEN WITH THE SEED: the statements are not yours to turn. If you find one false, say at which input.
  Laid BY PROGRAM, IN A SANDBOX (cutbox-rows.mjs): the forced cells as the released guide's own fill.sh prints them over the translation 4c26f81283b673a0… (all of the seat's roots in one cut). By AI agents, Wed Nov 11 2026. No macro, syntax, notation, axiom, sorry.
-/
import Derived.Test.YtlhfddobimfcbaaChecked
import GoSem.Claim
import GoSem.ClaimJoined
import GoSem.ClaimMapViews
import Derived.JoinedTies
import Derived.KernelRfl
namespace Go.Proofs.Ytlhfddobimfcbaa
/- THE CELL 'sum', in the pinned program and in every row, IS THE sha256 OF THE DUMP (.gsa) THAT YtlhfddobimfcbaaProg.lean LOADS. Nothing in Lean hashes anything: it is a label: what it is worth is what the hold of that sum in a sandbox is worth. -/
noncomputable def Try.pinned : Pinned := { name := "ytlhfddobimfcbaa", sum := "4c26f81283b673a0d84b02ac9ac7f764a0591a6ccef2734c39d7b9a87c281214", checked := Try.checked }
namespace Rows
def none {H : Type} : Left H := { results := [], args := [] }

/-- 'deliberationlaw27.ProtocolRetracted': WHATEVER THE INPUT: true; the input reads as it did. -/
def protocolRetractedSpec : ChangeSpec := { name := "protocolRetracted", fn := fun _ => fun
  | [d] => { results := [.lit (.bool true)], args := [d] }
  | _ => none }
def protocolRetractedRow : OpenClaim := { program := "ytlhfddobimfcbaa", sum := "4c26f81283b673a0d84b02ac9ac7f764a0591a6ccef2734c39d7b9a87c281214", func := "deliberation/deliberationlaw27.ProtocolRetracted", spec := "protocolRetracted", apart := false }
def ProtocolRetractedSaid : Prop := protocolRetractedRow.holds Try.pinned (OpenSpec.ofChange protocolRetractedSpec)

/-- ITS FALSE NEIGHBOUR: 'it returns false'. Refute it at one input. -/
def protocolRetractedWrong : ChangeSpec := { name := "protocolRetracted", fn := fun _ => fun
  | [d] => { results := [.lit (.bool false)], args := [d] }
  | _ => none }
def ProtocolRetractedWrongFalsely : Prop := protocolRetractedRow.holds Try.pinned (OpenSpec.ofChange protocolRetractedWrong)

/-- 'deliberationlaw27.ProtocolVerdict': WHATEVER THE INPUT: true; the input reads as it did. -/
def protocolVerdictSpec : ChangeSpec := { name := "protocolVerdict", fn := fun _ => fun
  | [d] => { results := [.lit (.bool true)], args := [d] }
  | _ => none }
def protocolVerdictRow : OpenClaim := { program := "ytlhfddobimfcbaa", sum := "4c26f81283b673a0d84b02ac9ac7f764a0591a6ccef2734c39d7b9a87c281214", func := "deliberation/deliberationlaw27.ProtocolVerdict", spec := "protocolVerdict", apart := false }
def ProtocolVerdictSaid : Prop := protocolVerdictRow.holds Try.pinned (OpenSpec.ofChange protocolVerdictSpec)

/-- ITS FALSE NEIGHBOUR: 'it returns false'. Refute it at one input. -/
def protocolVerdictWrong : ChangeSpec := { name := "protocolVerdict", fn := fun _ => fun
  | [d] => { results := [.lit (.bool false)], args := [d] }
  | _ => none }
def ProtocolVerdictWrongFalsely : Prop := protocolVerdictRow.holds Try.pinned (OpenSpec.ofChange protocolVerdictWrong)

/-- 'deliberationlaw27.ProtocolEnds': WHATEVER THE INPUT: true; the input reads as it did. -/
def protocolEndsSpec : ChangeSpec := { name := "protocolEnds", fn := fun _ => fun
  | [d1, d2, d3] => { results := [.lit (.bool true)], args := [d1, d2, d3] }
  | _ => none }
def protocolEndsRow : OpenClaim := { program := "ytlhfddobimfcbaa", sum := "4c26f81283b673a0d84b02ac9ac7f764a0591a6ccef2734c39d7b9a87c281214", func := "deliberation/deliberationlaw27.ProtocolEnds", spec := "protocolEnds", apart := false }
def ProtocolEndsSaid : Prop := protocolEndsRow.holds Try.pinned (OpenSpec.ofChange protocolEndsSpec)

/-- ITS FALSE NEIGHBOUR: 'it returns false'. Refute it at one input. -/
def protocolEndsWrong : ChangeSpec := { name := "protocolEnds", fn := fun _ => fun
  | [d1, d2, d3] => { results := [.lit (.bool false)], args := [d1, d2, d3] }
  | _ => none }
def ProtocolEndsWrongFalsely : Prop := protocolEndsRow.holds Try.pinned (OpenSpec.ofChange protocolEndsWrong)

/-- 'deliberationlaw27.ProtocolLeading': WHATEVER THE INPUT: true; the input reads as it did. -/
def protocolLeadingSpec : ChangeSpec := { name := "protocolLeading", fn := fun _ => fun
  | [d] => { results := [.lit (.bool true)], args := [d] }
  | _ => none }
def protocolLeadingRow : OpenClaim := { program := "ytlhfddobimfcbaa", sum := "4c26f81283b673a0d84b02ac9ac7f764a0591a6ccef2734c39d7b9a87c281214", func := "deliberation/deliberationlaw27.ProtocolLeading", spec := "protocolLeading", apart := false }
def ProtocolLeadingSaid : Prop := protocolLeadingRow.holds Try.pinned (OpenSpec.ofChange protocolLeadingSpec)

/-- ITS FALSE NEIGHBOUR: 'it returns false'. Refute it at one input. -/
def protocolLeadingWrong : ChangeSpec := { name := "protocolLeading", fn := fun _ => fun
  | [d] => { results := [.lit (.bool false)], args := [d] }
  | _ => none }
def ProtocolLeadingWrongFalsely : Prop := protocolLeadingRow.holds Try.pinned (OpenSpec.ofChange protocolLeadingWrong)

/- THE SECOND FORM. 'bulk': how many values and letters a reading holds, each counted each time it is reached (what is shared counts as often as it is met; a slice's spare places count too). A statement '..UptoSaid' is the law's where the arguments, and the package variables that the reading takes, are together of bulk at most 1048576: NARROWER than '..Said'. Prove '..Said' where nothing that the law and all that it calls make is longer than what came in: it says more and counts as full. Else prove '..UptoSaid'. A law counts once. -/
mutual
def uptoBulk {H : Type} : DataW H → Nat
  | .lit (.string bytes) => bytes.length + 1
  | .lit _ => 1
  | .nil => 1
  | .ptr d => uptoBulk d + 1
  | .slice elems spare => uptoBulkAll elems + uptoBulkAll spare + 1
  | .agg parts => uptoBulkAll parts + 1
  | .iface _ d => uptoBulk d + 1
  | .map entries => uptoBulkEntries entries + 1
  | .held _ => 1
def uptoBulkAll {H : Type} : List (DataW H) → Nat
  | [] => 0
  | d :: r => uptoBulk d + uptoBulkAll r
def uptoBulkEntries {H : Type} : List (Lit × DataW H) → Nat
  | [] => 0
  | x :: r => uptoBulkEntry x + uptoBulkEntries r
def uptoBulkEntry {H : Type} : Lit × DataW H → Nat
  | (.string bytes, d) => bytes.length + uptoBulk d + 1
  | (_, d) => uptoBulk d + 1
 end
def uptoSmall : (H : Type) → List (DataW H) → Bool := fun _ ds => decide (uptoBulkAll ds ≤ 1048576)
def OpenSpec.upto (s : _root_.Go.ChangeSpec) : _root_.Go.OpenSpec := { _root_.Go.OpenSpec.ofChange s with cond := some uptoSmall }

/-- 'deliberationlaw27.ProtocolRetracted', WHERE WHAT IT READS IS OF BULK AT MOST 1048576: true; the input reads as it did. -/
def protocolRetractedUptoRow : OpenClaim := { program := "ytlhfddobimfcbaa", sum := "4c26f81283b673a0d84b02ac9ac7f764a0591a6ccef2734c39d7b9a87c281214", func := "deliberation/deliberationlaw27.ProtocolRetracted", spec := "protocolRetracted", apart := false, narrowed := true }
def ProtocolRetractedUptoSaid : Prop := protocolRetractedUptoRow.holds Try.pinned (OpenSpec.upto protocolRetractedSpec)

/-- 'deliberationlaw27.ProtocolVerdict', WHERE WHAT IT READS IS OF BULK AT MOST 1048576: true; the input reads as it did. -/
def protocolVerdictUptoRow : OpenClaim := { program := "ytlhfddobimfcbaa", sum := "4c26f81283b673a0d84b02ac9ac7f764a0591a6ccef2734c39d7b9a87c281214", func := "deliberation/deliberationlaw27.ProtocolVerdict", spec := "protocolVerdict", apart := false, narrowed := true }
def ProtocolVerdictUptoSaid : Prop := protocolVerdictUptoRow.holds Try.pinned (OpenSpec.upto protocolVerdictSpec)

/-- 'deliberationlaw27.ProtocolEnds', WHERE WHAT IT READS IS OF BULK AT MOST 1048576: true; the input reads as it did. -/
def protocolEndsUptoRow : OpenClaim := { program := "ytlhfddobimfcbaa", sum := "4c26f81283b673a0d84b02ac9ac7f764a0591a6ccef2734c39d7b9a87c281214", func := "deliberation/deliberationlaw27.ProtocolEnds", spec := "protocolEnds", apart := false, narrowed := true }
def ProtocolEndsUptoSaid : Prop := protocolEndsUptoRow.holds Try.pinned (OpenSpec.upto protocolEndsSpec)

/-- 'deliberationlaw27.ProtocolLeading', WHERE WHAT IT READS IS OF BULK AT MOST 1048576: true; the input reads as it did. -/
def protocolLeadingUptoRow : OpenClaim := { program := "ytlhfddobimfcbaa", sum := "4c26f81283b673a0d84b02ac9ac7f764a0591a6ccef2734c39d7b9a87c281214", func := "deliberation/deliberationlaw27.ProtocolLeading", spec := "protocolLeading", apart := false, narrowed := true }
def ProtocolLeadingUptoSaid : Prop := protocolLeadingUptoRow.holds Try.pinned (OpenSpec.upto protocolLeadingSpec)

end Rows
end Go.Proofs.Ytlhfddobimfcbaa
