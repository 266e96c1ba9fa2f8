/-
  NARROWER THAN 'FOR EVERY INPUT', by the rows' own cells (each row's printed sentence says how): DegreeLeast: laid · DegreeStrengths: laid · DegreeEquation: laid · DegreeWeaker: laid · DegreeAnswers: laid · DegreeThresholds: laid.
  DERIVED. THE GIVEN ROWS OF THIS SEAT. 6 by the template 'for every input the law returns true; each argument reads behind the call as it read before'; 0 by the template 'total and deterministic' (their statements: YtmbflfngkcmfeaaDoorTotals.lean).
  GIVEN WITH THE SEED: the statements are not yours to turn. If you find one false, say at which input.
  Laid BY PROGRAM, IN A SANDBOX (cutbox-rows.mjs): the forced cells as the released guide's own fill.sh prints them over the translation 20f8a95dbaf92d81… (all of the seat's roots in one cut). By AI agents, Wed Nov 11 2026. No macro, syntax, notation, axiom, sorry.
-/
import Derived.Test.YtmbflfngkcmfeaaDoorChecked
import GoSem.Claim
import GoSem.ClaimJoined
import GoSem.ClaimMapViews
import Derived.JoinedTies
import Derived.KernelRfl
namespace Go.Proofs.YtmbflfngkcmfeaaDoor
/- THE CELL 'sum', in the pinned program and in every row, IS THE sha256 OF THE DUMP (.gsa) THAT YtmbflfngkcmfeaaDoorProg.lean LOADS. Nothing in Lean hashes anything: it is a label: what it is worth is what the hold of that sum in a sandbox is worth. -/
noncomputable def Tryd.pinned : Pinned := { name := "ytmbflfngkcmfeaadoor", sum := "20f8a95dbaf92d81f13c71eb3dfa7dcd34334409fb766357e5df3c1535a7b171", checked := Tryd.checked }
namespace Rows
def none {H : Type} : Left H := { results := [], args := [] }

/- WHAT THE LISTED PACKAGE-LEVEL VARIABLES READ AS WHEN THE CALL BEGINS. Each datum BY PROGRAM (the guide's laid-datum.mjs) off the statement by which the dump's own 'gosem.cut.vars' lays the variable. In a bare row this is a premise. The card (YtmbflfngkcmfeaaDoorCards.lean) ties it to the program's text. -/
def laid_math_bits_deBruijn64tab {H : Type} : DataW H := .agg [.lit (.int .u8 0), .lit (.int .u8 1), .lit (.int .u8 56), .lit (.int .u8 2), .lit (.int .u8 57), .lit (.int .u8 49), .lit (.int .u8 28), .lit (.int .u8 3), .lit (.int .u8 61), .lit (.int .u8 58), .lit (.int .u8 42), .lit (.int .u8 50), .lit (.int .u8 38), .lit (.int .u8 29), .lit (.int .u8 17), .lit (.int .u8 4), .lit (.int .u8 62), .lit (.int .u8 47), .lit (.int .u8 59), .lit (.int .u8 36), .lit (.int .u8 45), .lit (.int .u8 43), .lit (.int .u8 51), .lit (.int .u8 22), .lit (.int .u8 53), .lit (.int .u8 39), .lit (.int .u8 33), .lit (.int .u8 30), .lit (.int .u8 24), .lit (.int .u8 18), .lit (.int .u8 12), .lit (.int .u8 5), .lit (.int .u8 63), .lit (.int .u8 55), .lit (.int .u8 48), .lit (.int .u8 27), .lit (.int .u8 60), .lit (.int .u8 41), .lit (.int .u8 37), .lit (.int .u8 16), .lit (.int .u8 46), .lit (.int .u8 35), .lit (.int .u8 44), .lit (.int .u8 21), .lit (.int .u8 52), .lit (.int .u8 32), .lit (.int .u8 23), .lit (.int .u8 11), .lit (.int .u8 54), .lit (.int .u8 26), .lit (.int .u8 40), .lit (.int .u8 15), .lit (.int .u8 34), .lit (.int .u8 20), .lit (.int .u8 31), .lit (.int .u8 10), .lit (.int .u8 25), .lit (.int .u8 14), .lit (.int .u8 19), .lit (.int .u8 9), .lit (.int .u8 13), .lit (.int .u8 8), .lit (.int .u8 7), .lit (.int .u8 6)]

/-- 'deliberationlaw22.DegreeLeast': WHATEVER THE INPUT: true; the input reads as it did. -/
def degreeLeastSpec : ChangeSpec := { name := "degreeLeast", fn := fun _ => fun
  | [d1, d2] => { results := [.lit (.bool true)], args := [d1, d2] }
  | _ => none }
def degreeLeastRow : OpenClaim := { program := "ytmbflfngkcmfeaadoor", sum := "20f8a95dbaf92d81f13c71eb3dfa7dcd34334409fb766357e5df3c1535a7b171", func := "deliberation/deliberationlaw22.DegreeLeast", spec := "degreeLeast", unfollowed := true, recurses := true, named := ["math/bits.deBruijn64tab"], apart := false, laid := [("math/bits.deBruijn64tab", laid_math_bits_deBruijn64tab)] }
def DegreeLeastSaid : Prop := degreeLeastRow.holds Tryd.pinned (OpenSpec.ofChange degreeLeastSpec)

/-- ITS FALSE NEIGHBOUR: 'it returns false'. Refute it at one input. -/
def degreeLeastWrong : ChangeSpec := { name := "degreeLeast", fn := fun _ => fun
  | [d1, d2] => { results := [.lit (.bool false)], args := [d1, d2] }
  | _ => none }
def DegreeLeastWrongFalsely : Prop := degreeLeastRow.holds Tryd.pinned (OpenSpec.ofChange degreeLeastWrong)

/-- 'deliberationlaw22.DegreeStrengths': WHATEVER THE INPUT: true; the input reads as it did. -/
def degreeStrengthsSpec : ChangeSpec := { name := "degreeStrengths", fn := fun _ => fun
  | [d1, d2, d3] => { results := [.lit (.bool true)], args := [d1, d2, d3] }
  | _ => none }
def degreeStrengthsRow : OpenClaim := { program := "ytmbflfngkcmfeaadoor", sum := "20f8a95dbaf92d81f13c71eb3dfa7dcd34334409fb766357e5df3c1535a7b171", func := "deliberation/deliberationlaw22.DegreeStrengths", spec := "degreeStrengths", unfollowed := true, recurses := true, named := ["math/bits.deBruijn64tab"], apart := false, laid := [("math/bits.deBruijn64tab", laid_math_bits_deBruijn64tab)] }
def DegreeStrengthsSaid : Prop := degreeStrengthsRow.holds Tryd.pinned (OpenSpec.ofChange degreeStrengthsSpec)

/-- ITS FALSE NEIGHBOUR: 'it returns false'. Refute it at one input. -/
def degreeStrengthsWrong : ChangeSpec := { name := "degreeStrengths", fn := fun _ => fun
  | [d1, d2, d3] => { results := [.lit (.bool false)], args := [d1, d2, d3] }
  | _ => none }
def DegreeStrengthsWrongFalsely : Prop := degreeStrengthsRow.holds Tryd.pinned (OpenSpec.ofChange degreeStrengthsWrong)

/-- 'deliberationlaw22.DegreeEquation': WHATEVER THE INPUT: true; the input reads as it did. -/
def degreeEquationSpec : ChangeSpec := { name := "degreeEquation", fn := fun _ => fun
  | [d] => { results := [.lit (.bool true)], args := [d] }
  | _ => none }
def degreeEquationRow : OpenClaim := { program := "ytmbflfngkcmfeaadoor", sum := "20f8a95dbaf92d81f13c71eb3dfa7dcd34334409fb766357e5df3c1535a7b171", func := "deliberation/deliberationlaw22.DegreeEquation", spec := "degreeEquation", unfollowed := true, recurses := true, named := ["math/bits.deBruijn64tab"], apart := false, laid := [("math/bits.deBruijn64tab", laid_math_bits_deBruijn64tab)] }
def DegreeEquationSaid : Prop := degreeEquationRow.holds Tryd.pinned (OpenSpec.ofChange degreeEquationSpec)

/-- ITS FALSE NEIGHBOUR: 'it returns false'. Refute it at one input. -/
def degreeEquationWrong : ChangeSpec := { name := "degreeEquation", fn := fun _ => fun
  | [d] => { results := [.lit (.bool false)], args := [d] }
  | _ => none }
def DegreeEquationWrongFalsely : Prop := degreeEquationRow.holds Tryd.pinned (OpenSpec.ofChange degreeEquationWrong)

/-- 'deliberationlaw22.DegreeWeaker': WHATEVER THE INPUT: true; the input reads as it did. -/
def degreeWeakerSpec : ChangeSpec := { name := "degreeWeaker", fn := fun _ => fun
  | [d] => { results := [.lit (.bool true)], args := [d] }
  | _ => none }
def degreeWeakerRow : OpenClaim := { program := "ytmbflfngkcmfeaadoor", sum := "20f8a95dbaf92d81f13c71eb3dfa7dcd34334409fb766357e5df3c1535a7b171", func := "deliberation/deliberationlaw22.DegreeWeaker", spec := "degreeWeaker", unfollowed := true, recurses := true, named := ["math/bits.deBruijn64tab"], apart := false, laid := [("math/bits.deBruijn64tab", laid_math_bits_deBruijn64tab)] }
def DegreeWeakerSaid : Prop := degreeWeakerRow.holds Tryd.pinned (OpenSpec.ofChange degreeWeakerSpec)

/-- ITS FALSE NEIGHBOUR: 'it returns false'. Refute it at one input. -/
def degreeWeakerWrong : ChangeSpec := { name := "degreeWeaker", fn := fun _ => fun
  | [d] => { results := [.lit (.bool false)], args := [d] }
  | _ => none }
def DegreeWeakerWrongFalsely : Prop := degreeWeakerRow.holds Tryd.pinned (OpenSpec.ofChange degreeWeakerWrong)

/-- 'deliberationlaw22.DegreeAnswers': WHATEVER THE INPUT: true; the input reads as it did. -/
def degreeAnswersSpec : ChangeSpec := { name := "degreeAnswers", fn := fun _ => fun
  | [d1, d2, d3, d4, d5] => { results := [.lit (.bool true)], args := [d1, d2, d3, d4, d5] }
  | _ => none }
def degreeAnswersRow : OpenClaim := { program := "ytmbflfngkcmfeaadoor", sum := "20f8a95dbaf92d81f13c71eb3dfa7dcd34334409fb766357e5df3c1535a7b171", func := "deliberation/deliberationlaw22.DegreeAnswers", spec := "degreeAnswers", unfollowed := true, recurses := true, named := ["math/bits.deBruijn64tab"], apart := false, laid := [("math/bits.deBruijn64tab", laid_math_bits_deBruijn64tab)] }
def DegreeAnswersSaid : Prop := degreeAnswersRow.holds Tryd.pinned (OpenSpec.ofChange degreeAnswersSpec)

/-- ITS FALSE NEIGHBOUR: 'it returns false'. Refute it at one input. -/
def degreeAnswersWrong : ChangeSpec := { name := "degreeAnswers", fn := fun _ => fun
  | [d1, d2, d3, d4, d5] => { results := [.lit (.bool false)], args := [d1, d2, d3, d4, d5] }
  | _ => none }
def DegreeAnswersWrongFalsely : Prop := degreeAnswersRow.holds Tryd.pinned (OpenSpec.ofChange degreeAnswersWrong)

/-- 'deliberationlaw22.DegreeThresholds': WHATEVER THE INPUT: true; the input reads as it did. -/
def degreeThresholdsSpec : ChangeSpec := { name := "degreeThresholds", fn := fun _ => fun
  | [d] => { results := [.lit (.bool true)], args := [d] }
  | _ => none }
def degreeThresholdsRow : OpenClaim := { program := "ytmbflfngkcmfeaadoor", sum := "20f8a95dbaf92d81f13c71eb3dfa7dcd34334409fb766357e5df3c1535a7b171", func := "deliberation/deliberationlaw22.DegreeThresholds", spec := "degreeThresholds", unfollowed := true, recurses := true, named := ["math/bits.deBruijn64tab"], apart := false, laid := [("math/bits.deBruijn64tab", laid_math_bits_deBruijn64tab)] }
def DegreeThresholdsSaid : Prop := degreeThresholdsRow.holds Tryd.pinned (OpenSpec.ofChange degreeThresholdsSpec)

/-- ITS FALSE NEIGHBOUR: 'it returns false'. Refute it at one input. -/
def degreeThresholdsWrong : ChangeSpec := { name := "degreeThresholds", fn := fun _ => fun
  | [d] => { results := [.lit (.bool false)], args := [d] }
  | _ => none }
def DegreeThresholdsWrongFalsely : Prop := degreeThresholdsRow.holds Tryd.pinned (OpenSpec.ofChange degreeThresholdsWrong)

/- THE SECOND FORM. 'bulk': how many values and letters a reading holds, each counted each time it is reached (what is shared counts as often as it is met; a slice's spare places count too). A statement '..UptoSaid' is the law's where the arguments, and the package variables that the reading takes, are together of bulk at most 1048576: NARROWER than '..Said'. Prove '..Said' where nothing that the law and all that it calls make is longer than what came in: it says more and counts as full. Else prove '..UptoSaid'. A law counts once. -/
mutual
def uptoBulk {H : Type} : DataW H → Nat
  | .lit (.string bytes) => bytes.length + 1
  | .lit _ => 1
  | .nil => 1
  | .ptr d => uptoBulk d + 1
  | .slice elems spare => uptoBulkAll elems + uptoBulkAll spare + 1
  | .agg parts => uptoBulkAll parts + 1
  | .iface _ d => uptoBulk d + 1
  | .map entries => uptoBulkEntries entries + 1
  | .held _ => 1
def uptoBulkAll {H : Type} : List (DataW H) → Nat
  | [] => 0
  | d :: r => uptoBulk d + uptoBulkAll r
def uptoBulkEntries {H : Type} : List (Lit × DataW H) → Nat
  | [] => 0
  | x :: r => uptoBulkEntry x + uptoBulkEntries r
def uptoBulkEntry {H : Type} : Lit × DataW H → Nat
  | (.string bytes, d) => bytes.length + uptoBulk d + 1
  | (_, d) => uptoBulk d + 1
 end
def uptoSmall : (H : Type) → List (DataW H) → Bool := fun _ ds => decide (uptoBulkAll ds ≤ 1048576)
def OpenSpec.upto (s : _root_.Go.ChangeSpec) : _root_.Go.OpenSpec := { _root_.Go.OpenSpec.ofChange s with cond := some uptoSmall }

/-- 'deliberationlaw22.DegreeLeast', WHERE WHAT IT READS IS OF BULK AT MOST 1048576: true; the input reads as it did. -/
def degreeLeastUptoRow : OpenClaim := { program := "ytmbflfngkcmfeaadoor", sum := "20f8a95dbaf92d81f13c71eb3dfa7dcd34334409fb766357e5df3c1535a7b171", func := "deliberation/deliberationlaw22.DegreeLeast", spec := "degreeLeast", unfollowed := true, recurses := true, named := ["math/bits.deBruijn64tab"], apart := false, laid := [("math/bits.deBruijn64tab", laid_math_bits_deBruijn64tab)], narrowed := true }
def DegreeLeastUptoSaid : Prop := degreeLeastUptoRow.holds Tryd.pinned (OpenSpec.upto degreeLeastSpec)

/-- 'deliberationlaw22.DegreeStrengths', WHERE WHAT IT READS IS OF BULK AT MOST 1048576: true; the input reads as it did. -/
def degreeStrengthsUptoRow : OpenClaim := { program := "ytmbflfngkcmfeaadoor", sum := "20f8a95dbaf92d81f13c71eb3dfa7dcd34334409fb766357e5df3c1535a7b171", func := "deliberation/deliberationlaw22.DegreeStrengths", spec := "degreeStrengths", unfollowed := true, recurses := true, named := ["math/bits.deBruijn64tab"], apart := false, laid := [("math/bits.deBruijn64tab", laid_math_bits_deBruijn64tab)], narrowed := true }
def DegreeStrengthsUptoSaid : Prop := degreeStrengthsUptoRow.holds Tryd.pinned (OpenSpec.upto degreeStrengthsSpec)

/-- 'deliberationlaw22.DegreeEquation', WHERE WHAT IT READS IS OF BULK AT MOST 1048576: true; the input reads as it did. -/
def degreeEquationUptoRow : OpenClaim := { program := "ytmbflfngkcmfeaadoor", sum := "20f8a95dbaf92d81f13c71eb3dfa7dcd34334409fb766357e5df3c1535a7b171", func := "deliberation/deliberationlaw22.DegreeEquation", spec := "degreeEquation", unfollowed := true, recurses := true, named := ["math/bits.deBruijn64tab"], apart := false, laid := [("math/bits.deBruijn64tab", laid_math_bits_deBruijn64tab)], narrowed := true }
def DegreeEquationUptoSaid : Prop := degreeEquationUptoRow.holds Tryd.pinned (OpenSpec.upto degreeEquationSpec)

/-- 'deliberationlaw22.DegreeWeaker', WHERE WHAT IT READS IS OF BULK AT MOST 1048576: true; the input reads as it did. -/
def degreeWeakerUptoRow : OpenClaim := { program := "ytmbflfngkcmfeaadoor", sum := "20f8a95dbaf92d81f13c71eb3dfa7dcd34334409fb766357e5df3c1535a7b171", func := "deliberation/deliberationlaw22.DegreeWeaker", spec := "degreeWeaker", unfollowed := true, recurses := true, named := ["math/bits.deBruijn64tab"], apart := false, laid := [("math/bits.deBruijn64tab", laid_math_bits_deBruijn64tab)], narrowed := true }
def DegreeWeakerUptoSaid : Prop := degreeWeakerUptoRow.holds Tryd.pinned (OpenSpec.upto degreeWeakerSpec)

/-- 'deliberationlaw22.DegreeAnswers', WHERE WHAT IT READS IS OF BULK AT MOST 1048576: true; the input reads as it did. -/
def degreeAnswersUptoRow : OpenClaim := { program := "ytmbflfngkcmfeaadoor", sum := "20f8a95dbaf92d81f13c71eb3dfa7dcd34334409fb766357e5df3c1535a7b171", func := "deliberation/deliberationlaw22.DegreeAnswers", spec := "degreeAnswers", unfollowed := true, recurses := true, named := ["math/bits.deBruijn64tab"], apart := false, laid := [("math/bits.deBruijn64tab", laid_math_bits_deBruijn64tab)], narrowed := true }
def DegreeAnswersUptoSaid : Prop := degreeAnswersUptoRow.holds Tryd.pinned (OpenSpec.upto degreeAnswersSpec)

/-- 'deliberationlaw22.DegreeThresholds', WHERE WHAT IT READS IS OF BULK AT MOST 1048576: true; the input reads as it did. -/
def degreeThresholdsUptoRow : OpenClaim := { program := "ytmbflfngkcmfeaadoor", sum := "20f8a95dbaf92d81f13c71eb3dfa7dcd34334409fb766357e5df3c1535a7b171", func := "deliberation/deliberationlaw22.DegreeThresholds", spec := "degreeThresholds", unfollowed := true, recurses := true, named := ["math/bits.deBruijn64tab"], apart := false, laid := [("math/bits.deBruijn64tab", laid_math_bits_deBruijn64tab)], narrowed := true }
def DegreeThresholdsUptoSaid : Prop := degreeThresholdsUptoRow.holds Tryd.pinned (OpenSpec.upto degreeThresholdsSpec)

end Rows
end Go.Proofs.YtmbflfngkcmfeaaDoor
