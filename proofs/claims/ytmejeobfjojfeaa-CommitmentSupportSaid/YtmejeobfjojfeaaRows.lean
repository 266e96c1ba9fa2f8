/-
  No cell of these rows narrows 'for every input' (looked for: loops, veiled, ifaces, maps, wideKeys, modest, calm, conditions, laid).
  DERIVED. THE GIVEN ROWS OF THIS SEAT. 3 by the template 'for every input the law returns true; each argument reads behind the call as it read before'; 0 by the template 'total and deterministic' (their statements: YtmejeobfjojfeaaTotals.lean).
  GIVEN WITH THE SEED: the statements are not yours to turn. If you find one false, say at which input.
  Laid BY PROGRAM, IN A SANDBOX (cutbox-rows.mjs): the forced cells as the released guide's own fill.sh prints them over the translation 2b9241fc497dfcc5… (all of the seat's roots in one cut). By AI agents, Wed Nov 11 2026. No macro, syntax, notation, axiom, sorry.
-/
import Derived.Test.YtmejeobfjojfeaaChecked
import GoSem.Claim
import GoSem.ClaimJoined
import GoSem.ClaimMapViews
import Derived.JoinedTies
import Derived.KernelRfl
namespace Go.Proofs.Ytmejeobfjojfeaa
/- THE CELL 'sum', in the pinned program and in every row, IS THE sha256 OF THE DUMP (.gsa) THAT YtmejeobfjojfeaaProg.lean LOADS. Nothing in Lean hashes anything: it is a label: what it is worth is what the hold of that sum in a sandbox is worth. -/
noncomputable def Try.pinned : Pinned := { name := "ytmejeobfjojfeaa", sum := "2b9241fc497dfcc5980f1cf09788ff0e9f4d7930b7dab9c0d21f18ef11cf6e06", checked := Try.checked }
namespace Rows
def none {H : Type} : Left H := { results := [], args := [] }

/-- 'deliberationlaw26.CommitmentLocal': WHATEVER THE INPUT: true; the input reads as it did. -/
def commitmentLocalSpec : ChangeSpec := { name := "commitmentLocal", fn := fun _ => fun
  | [d] => { results := [.lit (.bool true)], args := [d] }
  | _ => none }
def commitmentLocalRow : OpenClaim := { program := "ytmejeobfjojfeaa", sum := "2b9241fc497dfcc5980f1cf09788ff0e9f4d7930b7dab9c0d21f18ef11cf6e06", func := "deliberation/deliberationlaw26.CommitmentLocal", spec := "commitmentLocal", inPlace := ["slices.overlaps[deliberation/api.Commitment]"], unfollowed := true, recurses := true, plainKeys := false, apart := false }
def CommitmentLocalSaid : Prop := commitmentLocalRow.holds Try.pinned (OpenSpec.ofChange commitmentLocalSpec)

/-- ITS FALSE NEIGHBOUR: 'it returns false'. Refute it at one input. -/
def commitmentLocalWrong : ChangeSpec := { name := "commitmentLocal", fn := fun _ => fun
  | [d] => { results := [.lit (.bool false)], args := [d] }
  | _ => none }
def CommitmentLocalWrongFalsely : Prop := commitmentLocalRow.holds Try.pinned (OpenSpec.ofChange commitmentLocalWrong)

/-- 'deliberationlaw26.CommitmentSays': WHATEVER THE INPUT: true; the input reads as it did. -/
def commitmentSaysSpec : ChangeSpec := { name := "commitmentSays", fn := fun _ => fun
  | [d1, d2, d3, d4] => { results := [.lit (.bool true)], args := [d1, d2, d3, d4] }
  | _ => none }
def commitmentSaysRow : OpenClaim := { program := "ytmejeobfjojfeaa", sum := "2b9241fc497dfcc5980f1cf09788ff0e9f4d7930b7dab9c0d21f18ef11cf6e06", func := "deliberation/deliberationlaw26.CommitmentSays", spec := "commitmentSays", inPlace := ["slices.overlaps[deliberation/api.Commitment]"], unfollowed := true, recurses := true, plainKeys := false, apart := false }
def CommitmentSaysSaid : Prop := commitmentSaysRow.holds Try.pinned (OpenSpec.ofChange commitmentSaysSpec)

/-- ITS FALSE NEIGHBOUR: 'it returns false'. Refute it at one input. -/
def commitmentSaysWrong : ChangeSpec := { name := "commitmentSays", fn := fun _ => fun
  | [d1, d2, d3, d4] => { results := [.lit (.bool false)], args := [d1, d2, d3, d4] }
  | _ => none }
def CommitmentSaysWrongFalsely : Prop := commitmentSaysRow.holds Try.pinned (OpenSpec.ofChange commitmentSaysWrong)

/-- 'deliberationlaw26.CommitmentSupport': WHATEVER THE INPUT: true; the input reads as it did. -/
def commitmentSupportSpec : ChangeSpec := { name := "commitmentSupport", fn := fun _ => fun
  | [d] => { results := [.lit (.bool true)], args := [d] }
  | _ => none }
def commitmentSupportRow : OpenClaim := { program := "ytmejeobfjojfeaa", sum := "2b9241fc497dfcc5980f1cf09788ff0e9f4d7930b7dab9c0d21f18ef11cf6e06", func := "deliberation/deliberationlaw26.CommitmentSupport", spec := "commitmentSupport", inPlace := ["slices.overlaps[deliberation/api.Commitment]"], unfollowed := true, recurses := true, plainKeys := false, apart := false }
def CommitmentSupportSaid : Prop := commitmentSupportRow.holds Try.pinned (OpenSpec.ofChange commitmentSupportSpec)

/-- ITS FALSE NEIGHBOUR: 'it returns false'. Refute it at one input. -/
def commitmentSupportWrong : ChangeSpec := { name := "commitmentSupport", fn := fun _ => fun
  | [d] => { results := [.lit (.bool false)], args := [d] }
  | _ => none }
def CommitmentSupportWrongFalsely : Prop := commitmentSupportRow.holds Try.pinned (OpenSpec.ofChange commitmentSupportWrong)

/- THE SECOND FORM. 'bulk': how many values and letters a reading holds, each counted each time it is reached (what is shared counts as often as it is met; a slice's spare places count too). A statement '..UptoSaid' is the law's where the arguments, and the package variables that the reading takes, are together of bulk at most 1048576: NARROWER than '..Said'. Prove '..Said' where nothing that the law and all that it calls make is longer than what came in: it says more and counts as full. Else prove '..UptoSaid'. A law counts once. -/
mutual
def uptoBulk {H : Type} : DataW H → Nat
  | .lit (.string bytes) => bytes.length + 1
  | .lit _ => 1
  | .nil => 1
  | .ptr d => uptoBulk d + 1
  | .slice elems spare => uptoBulkAll elems + uptoBulkAll spare + 1
  | .agg parts => uptoBulkAll parts + 1
  | .iface _ d => uptoBulk d + 1
  | .map entries => uptoBulkEntries entries + 1
  | .held _ => 1
def uptoBulkAll {H : Type} : List (DataW H) → Nat
  | [] => 0
  | d :: r => uptoBulk d + uptoBulkAll r
def uptoBulkEntries {H : Type} : List (Lit × DataW H) → Nat
  | [] => 0
  | x :: r => uptoBulkEntry x + uptoBulkEntries r
def uptoBulkEntry {H : Type} : Lit × DataW H → Nat
  | (.string bytes, d) => bytes.length + uptoBulk d + 1
  | (_, d) => uptoBulk d + 1
 end
def uptoSmall : (H : Type) → List (DataW H) → Bool := fun _ ds => decide (uptoBulkAll ds ≤ 1048576)
def OpenSpec.upto (s : _root_.Go.ChangeSpec) : _root_.Go.OpenSpec := { _root_.Go.OpenSpec.ofChange s with cond := some uptoSmall }

/-- 'deliberationlaw26.CommitmentLocal', WHERE WHAT IT READS IS OF BULK AT MOST 1048576: true; the input reads as it did. -/
def commitmentLocalUptoRow : OpenClaim := { program := "ytmejeobfjojfeaa", sum := "2b9241fc497dfcc5980f1cf09788ff0e9f4d7930b7dab9c0d21f18ef11cf6e06", func := "deliberation/deliberationlaw26.CommitmentLocal", spec := "commitmentLocal", inPlace := ["slices.overlaps[deliberation/api.Commitment]"], unfollowed := true, recurses := true, plainKeys := false, apart := false, narrowed := true }
def CommitmentLocalUptoSaid : Prop := commitmentLocalUptoRow.holds Try.pinned (OpenSpec.upto commitmentLocalSpec)

/-- 'deliberationlaw26.CommitmentSays', WHERE WHAT IT READS IS OF BULK AT MOST 1048576: true; the input reads as it did. -/
def commitmentSaysUptoRow : OpenClaim := { program := "ytmejeobfjojfeaa", sum := "2b9241fc497dfcc5980f1cf09788ff0e9f4d7930b7dab9c0d21f18ef11cf6e06", func := "deliberation/deliberationlaw26.CommitmentSays", spec := "commitmentSays", inPlace := ["slices.overlaps[deliberation/api.Commitment]"], unfollowed := true, recurses := true, plainKeys := false, apart := false, narrowed := true }
def CommitmentSaysUptoSaid : Prop := commitmentSaysUptoRow.holds Try.pinned (OpenSpec.upto commitmentSaysSpec)

/-- 'deliberationlaw26.CommitmentSupport', WHERE WHAT IT READS IS OF BULK AT MOST 1048576: true; the input reads as it did. -/
def commitmentSupportUptoRow : OpenClaim := { program := "ytmejeobfjojfeaa", sum := "2b9241fc497dfcc5980f1cf09788ff0e9f4d7930b7dab9c0d21f18ef11cf6e06", func := "deliberation/deliberationlaw26.CommitmentSupport", spec := "commitmentSupport", inPlace := ["slices.overlaps[deliberation/api.Commitment]"], unfollowed := true, recurses := true, plainKeys := false, apart := false, narrowed := true }
def CommitmentSupportUptoSaid : Prop := commitmentSupportUptoRow.holds Try.pinned (OpenSpec.upto commitmentSupportSpec)

end Rows
end Go.Proofs.Ytmejeobfjojfeaa
