/-
  No cell of these rows narrows 'for every input' (looked for: loops, veiled, ifaces, maps, wideKeys, modest, calm, conditions, laid).
  DERIVED. THE GIVEN ROWS OF THIS SEAT. 5 by the template 'for every input the law returns true; each argument reads behind the call as it read before'; 0 by the template 'total and deterministic' (their statements: YtofcoilhjmkejaaTotals.lean).
  GIVEN WITH THE SEED: the statements are not yours to turn. If you find one false, say at which input.
  Laid BY PROGRAM, IN A SANDBOX (cutbox-rows.mjs): the forced cells as the released guide's own fill.sh prints them over the translation d01e4b16bd1347bc… (all of the seat's roots in one cut). By AI agents, Wed Nov 11 2026. No macro, syntax, notation, axiom, sorry.
-/
import Derived.Test.YtofcoilhjmkejaaChecked
import GoSem.Claim
import GoSem.ClaimJoined
import GoSem.ClaimMapViews
import Derived.JoinedTies
import Derived.KernelRfl
namespace Go.Proofs.Ytofcoilhjmkejaa
/- THE CELL 'sum', in the pinned program and in every row, IS THE sha256 OF THE DUMP (.gsa) THAT YtofcoilhjmkejaaProg.lean LOADS. Nothing in Lean hashes anything: it is a label: what it is worth is what the hold of that sum in a sandbox is worth. -/
noncomputable def Try.pinned : Pinned := { name := "ytofcoilhjmkejaa", sum := "d01e4b16bd1347bcf185dd9ea834f7a5547ca1d59e6565d33b0cb2bf21efd036", checked := Try.checked }
namespace Rows
def none {H : Type} : Left H := { results := [], args := [] }

/-- 'deliberationlaw08.LiftSets': WHATEVER THE INPUT: true; the input reads as it did. -/
def liftSetsSpec : ChangeSpec := { name := "liftSets", fn := fun _ => fun
  | [d1, d2, d3, d4, d5] => { results := [.lit (.bool true)], args := [d1, d2, d3, d4, d5] }
  | _ => none }
def liftSetsRow : OpenClaim := { program := "ytofcoilhjmkejaa", sum := "d01e4b16bd1347bcf185dd9ea834f7a5547ca1d59e6565d33b0cb2bf21efd036", func := "deliberation/deliberationlaw08.LiftSets", spec := "liftSets", unfollowed := true, recurses := true, apart := false }
def LiftSetsSaid : Prop := liftSetsRow.holds Try.pinned (OpenSpec.ofChange liftSetsSpec)

/-- ITS FALSE NEIGHBOUR: 'it returns false'. Refute it at one input. -/
def liftSetsWrong : ChangeSpec := { name := "liftSets", fn := fun _ => fun
  | [d1, d2, d3, d4, d5] => { results := [.lit (.bool false)], args := [d1, d2, d3, d4, d5] }
  | _ => none }
def LiftSetsWrongFalsely : Prop := liftSetsRow.holds Try.pinned (OpenSpec.ofChange liftSetsWrong)

/-- 'deliberationlaw08.LiftRanks': WHATEVER THE INPUT: true; the input reads as it did. -/
def liftRanksSpec : ChangeSpec := { name := "liftRanks", fn := fun _ => fun
  | [d1, d2] => { results := [.lit (.bool true)], args := [d1, d2] }
  | _ => none }
def liftRanksRow : OpenClaim := { program := "ytofcoilhjmkejaa", sum := "d01e4b16bd1347bcf185dd9ea834f7a5547ca1d59e6565d33b0cb2bf21efd036", func := "deliberation/deliberationlaw08.LiftRanks", spec := "liftRanks", unfollowed := true, recurses := true, apart := false }
def LiftRanksSaid : Prop := liftRanksRow.holds Try.pinned (OpenSpec.ofChange liftRanksSpec)

/-- ITS FALSE NEIGHBOUR: 'it returns false'. Refute it at one input. -/
def liftRanksWrong : ChangeSpec := { name := "liftRanks", fn := fun _ => fun
  | [d1, d2] => { results := [.lit (.bool false)], args := [d1, d2] }
  | _ => none }
def LiftRanksWrongFalsely : Prop := liftRanksRow.holds Try.pinned (OpenSpec.ofChange liftRanksWrong)

/-- 'deliberationlaw08.LiftCompares': WHATEVER THE INPUT: true; the input reads as it did. -/
def liftComparesSpec : ChangeSpec := { name := "liftCompares", fn := fun _ => fun
  | [d1, d2, d3, d4] => { results := [.lit (.bool true)], args := [d1, d2, d3, d4] }
  | _ => none }
def liftComparesRow : OpenClaim := { program := "ytofcoilhjmkejaa", sum := "d01e4b16bd1347bcf185dd9ea834f7a5547ca1d59e6565d33b0cb2bf21efd036", func := "deliberation/deliberationlaw08.LiftCompares", spec := "liftCompares", unfollowed := true, recurses := true, apart := false }
def LiftComparesSaid : Prop := liftComparesRow.holds Try.pinned (OpenSpec.ofChange liftComparesSpec)

/-- ITS FALSE NEIGHBOUR: 'it returns false'. Refute it at one input. -/
def liftComparesWrong : ChangeSpec := { name := "liftCompares", fn := fun _ => fun
  | [d1, d2, d3, d4] => { results := [.lit (.bool false)], args := [d1, d2, d3, d4] }
  | _ => none }
def LiftComparesWrongFalsely : Prop := liftComparesRow.holds Try.pinned (OpenSpec.ofChange liftComparesWrong)

/-- 'deliberationlaw08.LiftFirm': WHATEVER THE INPUT: true; the input reads as it did. -/
def liftFirmSpec : ChangeSpec := { name := "liftFirm", fn := fun _ => fun
  | [d] => { results := [.lit (.bool true)], args := [d] }
  | _ => none }
def liftFirmRow : OpenClaim := { program := "ytofcoilhjmkejaa", sum := "d01e4b16bd1347bcf185dd9ea834f7a5547ca1d59e6565d33b0cb2bf21efd036", func := "deliberation/deliberationlaw08.LiftFirm", spec := "liftFirm", unfollowed := true, recurses := true, apart := false }
def LiftFirmSaid : Prop := liftFirmRow.holds Try.pinned (OpenSpec.ofChange liftFirmSpec)

/-- ITS FALSE NEIGHBOUR: 'it returns false'. Refute it at one input. -/
def liftFirmWrong : ChangeSpec := { name := "liftFirm", fn := fun _ => fun
  | [d] => { results := [.lit (.bool false)], args := [d] }
  | _ => none }
def LiftFirmWrongFalsely : Prop := liftFirmRow.holds Try.pinned (OpenSpec.ofChange liftFirmWrong)

/-- 'deliberationlaw08.LiftStrict': WHATEVER THE INPUT: true; the input reads as it did. -/
def liftStrictSpec : ChangeSpec := { name := "liftStrict", fn := fun _ => fun
  | [d] => { results := [.lit (.bool true)], args := [d] }
  | _ => none }
def liftStrictRow : OpenClaim := { program := "ytofcoilhjmkejaa", sum := "d01e4b16bd1347bcf185dd9ea834f7a5547ca1d59e6565d33b0cb2bf21efd036", func := "deliberation/deliberationlaw08.LiftStrict", spec := "liftStrict", unfollowed := true, recurses := true, apart := false }
def LiftStrictSaid : Prop := liftStrictRow.holds Try.pinned (OpenSpec.ofChange liftStrictSpec)

/-- ITS FALSE NEIGHBOUR: 'it returns false'. Refute it at one input. -/
def liftStrictWrong : ChangeSpec := { name := "liftStrict", fn := fun _ => fun
  | [d] => { results := [.lit (.bool false)], args := [d] }
  | _ => none }
def LiftStrictWrongFalsely : Prop := liftStrictRow.holds Try.pinned (OpenSpec.ofChange liftStrictWrong)

/- THE SECOND FORM. 'bulk': how many values and letters a reading holds, each counted each time it is reached (what is shared counts as often as it is met; a slice's spare places count too). A statement '..UptoSaid' is the law's where the arguments, and the package variables that the reading takes, are together of bulk at most 1048576: NARROWER than '..Said'. Prove '..Said' where nothing that the law and all that it calls make is longer than what came in: it says more and counts as full. Else prove '..UptoSaid'. A law counts once. -/
mutual
def uptoBulk {H : Type} : DataW H → Nat
  | .lit (.string bytes) => bytes.length + 1
  | .lit _ => 1
  | .nil => 1
  | .ptr d => uptoBulk d + 1
  | .slice elems spare => uptoBulkAll elems + uptoBulkAll spare + 1
  | .agg parts => uptoBulkAll parts + 1
  | .iface _ d => uptoBulk d + 1
  | .map entries => uptoBulkEntries entries + 1
  | .held _ => 1
def uptoBulkAll {H : Type} : List (DataW H) → Nat
  | [] => 0
  | d :: r => uptoBulk d + uptoBulkAll r
def uptoBulkEntries {H : Type} : List (Lit × DataW H) → Nat
  | [] => 0
  | x :: r => uptoBulkEntry x + uptoBulkEntries r
def uptoBulkEntry {H : Type} : Lit × DataW H → Nat
  | (.string bytes, d) => bytes.length + uptoBulk d + 1
  | (_, d) => uptoBulk d + 1
 end
def uptoSmall : (H : Type) → List (DataW H) → Bool := fun _ ds => decide (uptoBulkAll ds ≤ 1048576)
def OpenSpec.upto (s : _root_.Go.ChangeSpec) : _root_.Go.OpenSpec := { _root_.Go.OpenSpec.ofChange s with cond := some uptoSmall }

/-- 'deliberationlaw08.LiftSets', WHERE WHAT IT READS IS OF BULK AT MOST 1048576: true; the input reads as it did. -/
def liftSetsUptoRow : OpenClaim := { program := "ytofcoilhjmkejaa", sum := "d01e4b16bd1347bcf185dd9ea834f7a5547ca1d59e6565d33b0cb2bf21efd036", func := "deliberation/deliberationlaw08.LiftSets", spec := "liftSets", unfollowed := true, recurses := true, apart := false, narrowed := true }
def LiftSetsUptoSaid : Prop := liftSetsUptoRow.holds Try.pinned (OpenSpec.upto liftSetsSpec)

/-- 'deliberationlaw08.LiftRanks', WHERE WHAT IT READS IS OF BULK AT MOST 1048576: true; the input reads as it did. -/
def liftRanksUptoRow : OpenClaim := { program := "ytofcoilhjmkejaa", sum := "d01e4b16bd1347bcf185dd9ea834f7a5547ca1d59e6565d33b0cb2bf21efd036", func := "deliberation/deliberationlaw08.LiftRanks", spec := "liftRanks", unfollowed := true, recurses := true, apart := false, narrowed := true }
def LiftRanksUptoSaid : Prop := liftRanksUptoRow.holds Try.pinned (OpenSpec.upto liftRanksSpec)

/-- 'deliberationlaw08.LiftCompares', WHERE WHAT IT READS IS OF BULK AT MOST 1048576: true; the input reads as it did. -/
def liftComparesUptoRow : OpenClaim := { program := "ytofcoilhjmkejaa", sum := "d01e4b16bd1347bcf185dd9ea834f7a5547ca1d59e6565d33b0cb2bf21efd036", func := "deliberation/deliberationlaw08.LiftCompares", spec := "liftCompares", unfollowed := true, recurses := true, apart := false, narrowed := true }
def LiftComparesUptoSaid : Prop := liftComparesUptoRow.holds Try.pinned (OpenSpec.upto liftComparesSpec)

/-- 'deliberationlaw08.LiftFirm', WHERE WHAT IT READS IS OF BULK AT MOST 1048576: true; the input reads as it did. -/
def liftFirmUptoRow : OpenClaim := { program := "ytofcoilhjmkejaa", sum := "d01e4b16bd1347bcf185dd9ea834f7a5547ca1d59e6565d33b0cb2bf21efd036", func := "deliberation/deliberationlaw08.LiftFirm", spec := "liftFirm", unfollowed := true, recurses := true, apart := false, narrowed := true }
def LiftFirmUptoSaid : Prop := liftFirmUptoRow.holds Try.pinned (OpenSpec.upto liftFirmSpec)

/-- 'deliberationlaw08.LiftStrict', WHERE WHAT IT READS IS OF BULK AT MOST 1048576: true; the input reads as it did. -/
def liftStrictUptoRow : OpenClaim := { program := "ytofcoilhjmkejaa", sum := "d01e4b16bd1347bcf185dd9ea834f7a5547ca1d59e6565d33b0cb2bf21efd036", func := "deliberation/deliberationlaw08.LiftStrict", spec := "liftStrict", unfollowed := true, recurses := true, apart := false, narrowed := true }
def LiftStrictUptoSaid : Prop := liftStrictUptoRow.holds Try.pinned (OpenSpec.upto liftStrictSpec)

end Rows
end Go.Proofs.Ytofcoilhjmkejaa
