/-
  No cell of these rows narrows 'for every input' (looked for: loops, veiled, ifaces, maps, wideKeys, modest, calm, conditions, laid).
  DERIVED. THE GIVEN ROWS OF THIS SEAT. 12 by the template 'for every input the law returns true; each argument reads behind the call as it read before'; 0 by the template 'total and deterministic' (their statements: YtejliecmdkmgiaaTotals.lean).
  GIVEN WITH THE SEED: the statements are not yours to turn. If you find one false, say at which input.
  Laid BY PROGRAM, IN A SANDBOX (cutbox-rows.mjs): the forced cells as the released guide's own fill.sh prints them over the translation 3b7ed56e537b5013… (all of the seat's roots in one cut). By AI agents, Wed Nov 11 2026. No macro, syntax, notation, axiom, sorry.
-/
import Derived.Test.YtejliecmdkmgiaaChecked
import GoSem.Claim
import GoSem.ClaimJoined
import GoSem.ClaimMapViews
import Derived.JoinedTies
import Derived.KernelRfl
namespace Go.Proofs.Ytejliecmdkmgiaa
/- THE CELL 'sum', in the pinned program and in every row, IS THE sha256 OF THE DUMP (.gsa) THAT YtejliecmdkmgiaaProg.lean LOADS. Nothing in Lean hashes anything: it is a label: what it is worth is what the hold of that sum in a sandbox is worth. -/
noncomputable def Try.pinned : Pinned := { name := "ytejliecmdkmgiaa", sum := "3b7ed56e537b5013277c5a2289034f6db8e837a43c5b8682155cbd4385841f0e", checked := Try.checked }
namespace Rows
def none {H : Type} : Left H := { results := [], args := [] }

/-- 'trellislaw16.CharpolyTurns': WHATEVER THE INPUT: true; the input reads as it did. -/
def charpolyTurnsSpec : ChangeSpec := { name := "charpolyTurns", fn := fun _ => fun
  | [d1, d2] => { results := [.lit (.bool true)], args := [d1, d2] }
  | _ => none }
def charpolyTurnsRow : OpenClaim := { program := "ytejliecmdkmgiaa", sum := "3b7ed56e537b5013277c5a2289034f6db8e837a43c5b8682155cbd4385841f0e", func := "trellis/trellislaw16.CharpolyTurns", spec := "charpolyTurns", inPlace := ["math/bits.Add64", "math/bits.Sub64"], unfollowed := true, recurses := true, named := ["math/bits.divideError", "math/bits.overflowError"], apart := false }
def CharpolyTurnsSaid : Prop := charpolyTurnsRow.holds Try.pinned (OpenSpec.ofChange charpolyTurnsSpec)

/-- ITS FALSE NEIGHBOUR: 'it returns false'. Refute it at one input. -/
def charpolyTurnsWrong : ChangeSpec := { name := "charpolyTurns", fn := fun _ => fun
  | [d1, d2] => { results := [.lit (.bool false)], args := [d1, d2] }
  | _ => none }
def CharpolyTurnsWrongFalsely : Prop := charpolyTurnsRow.holds Try.pinned (OpenSpec.ofChange charpolyTurnsWrong)

/-- 'trellislaw16.CharpolyCompanions': WHATEVER THE INPUT: true; the input reads as it did. -/
def charpolyCompanionsSpec : ChangeSpec := { name := "charpolyCompanions", fn := fun _ => fun
  | [d] => { results := [.lit (.bool true)], args := [d] }
  | _ => none }
def charpolyCompanionsRow : OpenClaim := { program := "ytejliecmdkmgiaa", sum := "3b7ed56e537b5013277c5a2289034f6db8e837a43c5b8682155cbd4385841f0e", func := "trellis/trellislaw16.CharpolyCompanions", spec := "charpolyCompanions", inPlace := ["math/bits.Add64", "math/bits.Sub64"], unfollowed := true, recurses := true, named := ["math/bits.divideError", "math/bits.overflowError"], apart := false }
def CharpolyCompanionsSaid : Prop := charpolyCompanionsRow.holds Try.pinned (OpenSpec.ofChange charpolyCompanionsSpec)

/-- ITS FALSE NEIGHBOUR: 'it returns false'. Refute it at one input. -/
def charpolyCompanionsWrong : ChangeSpec := { name := "charpolyCompanions", fn := fun _ => fun
  | [d] => { results := [.lit (.bool false)], args := [d] }
  | _ => none }
def CharpolyCompanionsWrongFalsely : Prop := charpolyCompanionsRow.holds Try.pinned (OpenSpec.ofChange charpolyCompanionsWrong)

/-- 'trellislaw16.CharpolyLeast': WHATEVER THE INPUT: true; the input reads as it did. -/
def charpolyLeastSpec : ChangeSpec := { name := "charpolyLeast", fn := fun _ => fun
  | [d1, d2] => { results := [.lit (.bool true)], args := [d1, d2] }
  | _ => none }
def charpolyLeastRow : OpenClaim := { program := "ytejliecmdkmgiaa", sum := "3b7ed56e537b5013277c5a2289034f6db8e837a43c5b8682155cbd4385841f0e", func := "trellis/trellislaw16.CharpolyLeast", spec := "charpolyLeast", inPlace := ["math/bits.Add64", "math/bits.Sub64"], unfollowed := true, recurses := true, named := ["math/bits.divideError", "math/bits.overflowError"], apart := false }
def CharpolyLeastSaid : Prop := charpolyLeastRow.holds Try.pinned (OpenSpec.ofChange charpolyLeastSpec)

/-- ITS FALSE NEIGHBOUR: 'it returns false'. Refute it at one input. -/
def charpolyLeastWrong : ChangeSpec := { name := "charpolyLeast", fn := fun _ => fun
  | [d1, d2] => { results := [.lit (.bool false)], args := [d1, d2] }
  | _ => none }
def CharpolyLeastWrongFalsely : Prop := charpolyLeastRow.holds Try.pinned (OpenSpec.ofChange charpolyLeastWrong)

/-- 'trellislaw16.CharpolyDets': WHATEVER THE INPUT: true; the input reads as it did. -/
def charpolyDetsSpec : ChangeSpec := { name := "charpolyDets", fn := fun _ => fun
  | [d1, d2, d3] => { results := [.lit (.bool true)], args := [d1, d2, d3] }
  | _ => none }
def charpolyDetsRow : OpenClaim := { program := "ytejliecmdkmgiaa", sum := "3b7ed56e537b5013277c5a2289034f6db8e837a43c5b8682155cbd4385841f0e", func := "trellis/trellislaw16.CharpolyDets", spec := "charpolyDets", inPlace := ["math/bits.Add64", "math/bits.Sub64"], unfollowed := true, recurses := true, named := ["math/bits.divideError", "math/bits.overflowError"], apart := false }
def CharpolyDetsSaid : Prop := charpolyDetsRow.holds Try.pinned (OpenSpec.ofChange charpolyDetsSpec)

/-- ITS FALSE NEIGHBOUR: 'it returns false'. Refute it at one input. -/
def charpolyDetsWrong : ChangeSpec := { name := "charpolyDets", fn := fun _ => fun
  | [d1, d2, d3] => { results := [.lit (.bool false)], args := [d1, d2, d3] }
  | _ => none }
def CharpolyDetsWrongFalsely : Prop := charpolyDetsRow.holds Try.pinned (OpenSpec.ofChange charpolyDetsWrong)

/-- 'trellislaw16.CharpolyAts': WHATEVER THE INPUT: true; the input reads as it did. -/
def charpolyAtsSpec : ChangeSpec := { name := "charpolyAts", fn := fun _ => fun
  | [d1, d2, d3] => { results := [.lit (.bool true)], args := [d1, d2, d3] }
  | _ => none }
def charpolyAtsRow : OpenClaim := { program := "ytejliecmdkmgiaa", sum := "3b7ed56e537b5013277c5a2289034f6db8e837a43c5b8682155cbd4385841f0e", func := "trellis/trellislaw16.CharpolyAts", spec := "charpolyAts", inPlace := ["math/bits.Add64", "math/bits.Sub64"], unfollowed := true, recurses := true, named := ["math/bits.divideError", "math/bits.overflowError"], apart := false }
def CharpolyAtsSaid : Prop := charpolyAtsRow.holds Try.pinned (OpenSpec.ofChange charpolyAtsSpec)

/-- ITS FALSE NEIGHBOUR: 'it returns false'. Refute it at one input. -/
def charpolyAtsWrong : ChangeSpec := { name := "charpolyAts", fn := fun _ => fun
  | [d1, d2, d3] => { results := [.lit (.bool false)], args := [d1, d2, d3] }
  | _ => none }
def CharpolyAtsWrongFalsely : Prop := charpolyAtsRow.holds Try.pinned (OpenSpec.ofChange charpolyAtsWrong)

/-- 'trellislaw14.MinorsAdjugate': WHATEVER THE INPUT: true; the input reads as it did. -/
def minorsAdjugateSpec : ChangeSpec := { name := "minorsAdjugate", fn := fun _ => fun
  | [d1, d2] => { results := [.lit (.bool true)], args := [d1, d2] }
  | _ => none }
def minorsAdjugateRow : OpenClaim := { program := "ytejliecmdkmgiaa", sum := "3b7ed56e537b5013277c5a2289034f6db8e837a43c5b8682155cbd4385841f0e", func := "trellis/trellislaw14.MinorsAdjugate", spec := "minorsAdjugate", inPlace := ["math/bits.Add64", "math/bits.Sub64"], unfollowed := true, recurses := true, named := ["math/bits.divideError", "math/bits.overflowError"], apart := false }
def MinorsAdjugateSaid : Prop := minorsAdjugateRow.holds Try.pinned (OpenSpec.ofChange minorsAdjugateSpec)

/-- ITS FALSE NEIGHBOUR: 'it returns false'. Refute it at one input. -/
def minorsAdjugateWrong : ChangeSpec := { name := "minorsAdjugate", fn := fun _ => fun
  | [d1, d2] => { results := [.lit (.bool false)], args := [d1, d2] }
  | _ => none }
def MinorsAdjugateWrongFalsely : Prop := minorsAdjugateRow.holds Try.pinned (OpenSpec.ofChange minorsAdjugateWrong)

/-- 'trellislaw14.MinorsCompound': WHATEVER THE INPUT: true; the input reads as it did. -/
def minorsCompoundSpec : ChangeSpec := { name := "minorsCompound", fn := fun _ => fun
  | [d1, d2] => { results := [.lit (.bool true)], args := [d1, d2] }
  | _ => none }
def minorsCompoundRow : OpenClaim := { program := "ytejliecmdkmgiaa", sum := "3b7ed56e537b5013277c5a2289034f6db8e837a43c5b8682155cbd4385841f0e", func := "trellis/trellislaw14.MinorsCompound", spec := "minorsCompound", inPlace := ["math/bits.Add64", "math/bits.Sub64"], unfollowed := true, recurses := true, named := ["math/bits.divideError", "math/bits.overflowError"], apart := false }
def MinorsCompoundSaid : Prop := minorsCompoundRow.holds Try.pinned (OpenSpec.ofChange minorsCompoundSpec)

/-- ITS FALSE NEIGHBOUR: 'it returns false'. Refute it at one input. -/
def minorsCompoundWrong : ChangeSpec := { name := "minorsCompound", fn := fun _ => fun
  | [d1, d2] => { results := [.lit (.bool false)], args := [d1, d2] }
  | _ => none }
def MinorsCompoundWrongFalsely : Prop := minorsCompoundRow.holds Try.pinned (OpenSpec.ofChange minorsCompoundWrong)

/-- 'trellislaw14.MinorsGcd': WHATEVER THE INPUT: true; the input reads as it did. -/
def minorsGcdSpec : ChangeSpec := { name := "minorsGcd", fn := fun _ => fun
  | [d1, d2, d3, d4] => { results := [.lit (.bool true)], args := [d1, d2, d3, d4] }
  | _ => none }
def minorsGcdRow : OpenClaim := { program := "ytejliecmdkmgiaa", sum := "3b7ed56e537b5013277c5a2289034f6db8e837a43c5b8682155cbd4385841f0e", func := "trellis/trellislaw14.MinorsGcd", spec := "minorsGcd", inPlace := ["math/bits.Add64", "math/bits.Sub64"], unfollowed := true, recurses := true, named := ["math/bits.divideError", "math/bits.overflowError"], apart := false }
def MinorsGcdSaid : Prop := minorsGcdRow.holds Try.pinned (OpenSpec.ofChange minorsGcdSpec)

/-- ITS FALSE NEIGHBOUR: 'it returns false'. Refute it at one input. -/
def minorsGcdWrong : ChangeSpec := { name := "minorsGcd", fn := fun _ => fun
  | [d1, d2, d3, d4] => { results := [.lit (.bool false)], args := [d1, d2, d3, d4] }
  | _ => none }
def MinorsGcdWrongFalsely : Prop := minorsGcdRow.holds Try.pinned (OpenSpec.ofChange minorsGcdWrong)

/-- 'trellislaw23.LllDets': WHATEVER THE INPUT: true; the input reads as it did. -/
def lllDetsSpec : ChangeSpec := { name := "lllDets", fn := fun _ => fun
  | [d] => { results := [.lit (.bool true)], args := [d] }
  | _ => none }
def lllDetsRow : OpenClaim := { program := "ytejliecmdkmgiaa", sum := "3b7ed56e537b5013277c5a2289034f6db8e837a43c5b8682155cbd4385841f0e", func := "trellis/trellislaw23.LllDets", spec := "lllDets", inPlace := ["math/bits.Add64", "math/bits.Sub64"], unfollowed := true, recurses := true, named := ["math/bits.divideError", "math/bits.overflowError"], apart := false }
def LllDetsSaid : Prop := lllDetsRow.holds Try.pinned (OpenSpec.ofChange lllDetsSpec)

/-- ITS FALSE NEIGHBOUR: 'it returns false'. Refute it at one input. -/
def lllDetsWrong : ChangeSpec := { name := "lllDets", fn := fun _ => fun
  | [d] => { results := [.lit (.bool false)], args := [d] }
  | _ => none }
def LllDetsWrongFalsely : Prop := lllDetsRow.holds Try.pinned (OpenSpec.ofChange lllDetsWrong)

/-- 'trellislaw17.RrefKernel': WHATEVER THE INPUT: true; the input reads as it did. -/
def rrefKernelSpec : ChangeSpec := { name := "rrefKernel", fn := fun _ => fun
  | [d] => { results := [.lit (.bool true)], args := [d] }
  | _ => none }
def rrefKernelRow : OpenClaim := { program := "ytejliecmdkmgiaa", sum := "3b7ed56e537b5013277c5a2289034f6db8e837a43c5b8682155cbd4385841f0e", func := "trellis/trellislaw17.RrefKernel", spec := "rrefKernel", inPlace := ["math/bits.Add64", "math/bits.Sub64"], unfollowed := true, recurses := true, named := ["math/bits.divideError", "math/bits.overflowError"], apart := false }
def RrefKernelSaid : Prop := rrefKernelRow.holds Try.pinned (OpenSpec.ofChange rrefKernelSpec)

/-- ITS FALSE NEIGHBOUR: 'it returns false'. Refute it at one input. -/
def rrefKernelWrong : ChangeSpec := { name := "rrefKernel", fn := fun _ => fun
  | [d] => { results := [.lit (.bool false)], args := [d] }
  | _ => none }
def RrefKernelWrongFalsely : Prop := rrefKernelRow.holds Try.pinned (OpenSpec.ofChange rrefKernelWrong)

/-- 'trellislaw17.RrefInverse': WHATEVER THE INPUT: true; the input reads as it did. -/
def rrefInverseSpec : ChangeSpec := { name := "rrefInverse", fn := fun _ => fun
  | [d] => { results := [.lit (.bool true)], args := [d] }
  | _ => none }
def rrefInverseRow : OpenClaim := { program := "ytejliecmdkmgiaa", sum := "3b7ed56e537b5013277c5a2289034f6db8e837a43c5b8682155cbd4385841f0e", func := "trellis/trellislaw17.RrefInverse", spec := "rrefInverse", inPlace := ["math/bits.Add64", "math/bits.Sub64"], unfollowed := true, recurses := true, named := ["math/bits.divideError", "math/bits.overflowError"], apart := false }
def RrefInverseSaid : Prop := rrefInverseRow.holds Try.pinned (OpenSpec.ofChange rrefInverseSpec)

/-- ITS FALSE NEIGHBOUR: 'it returns false'. Refute it at one input. -/
def rrefInverseWrong : ChangeSpec := { name := "rrefInverse", fn := fun _ => fun
  | [d] => { results := [.lit (.bool false)], args := [d] }
  | _ => none }
def RrefInverseWrongFalsely : Prop := rrefInverseRow.holds Try.pinned (OpenSpec.ofChange rrefInverseWrong)

/-- 'trellislaw17.RrefSolution': WHATEVER THE INPUT: true; the input reads as it did. -/
def rrefSolutionSpec : ChangeSpec := { name := "rrefSolution", fn := fun _ => fun
  | [d1, d2, d3] => { results := [.lit (.bool true)], args := [d1, d2, d3] }
  | _ => none }
def rrefSolutionRow : OpenClaim := { program := "ytejliecmdkmgiaa", sum := "3b7ed56e537b5013277c5a2289034f6db8e837a43c5b8682155cbd4385841f0e", func := "trellis/trellislaw17.RrefSolution", spec := "rrefSolution", inPlace := ["math/bits.Add64", "math/bits.Sub64"], unfollowed := true, recurses := true, named := ["math/bits.divideError", "math/bits.overflowError"], apart := false }
def RrefSolutionSaid : Prop := rrefSolutionRow.holds Try.pinned (OpenSpec.ofChange rrefSolutionSpec)

/-- ITS FALSE NEIGHBOUR: 'it returns false'. Refute it at one input. -/
def rrefSolutionWrong : ChangeSpec := { name := "rrefSolution", fn := fun _ => fun
  | [d1, d2, d3] => { results := [.lit (.bool false)], args := [d1, d2, d3] }
  | _ => none }
def RrefSolutionWrongFalsely : Prop := rrefSolutionRow.holds Try.pinned (OpenSpec.ofChange rrefSolutionWrong)

/- THE SECOND FORM. 'bulk': how many values and letters a reading holds, each counted each time it is reached (what is shared counts as often as it is met; a slice's spare places count too). A statement '..UptoSaid' is the law's where the arguments, and the package variables that the reading takes, are together of bulk at most 1048576: NARROWER than '..Said'. Prove '..Said' where nothing that the law and all that it calls make is longer than what came in: it says more and counts as full. Else prove '..UptoSaid'. A law counts once. -/
mutual
def uptoBulk {H : Type} : DataW H → Nat
  | .lit (.string bytes) => bytes.length + 1
  | .lit _ => 1
  | .nil => 1
  | .ptr d => uptoBulk d + 1
  | .slice elems spare => uptoBulkAll elems + uptoBulkAll spare + 1
  | .agg parts => uptoBulkAll parts + 1
  | .iface _ d => uptoBulk d + 1
  | .map entries => uptoBulkEntries entries + 1
  | .held _ => 1
def uptoBulkAll {H : Type} : List (DataW H) → Nat
  | [] => 0
  | d :: r => uptoBulk d + uptoBulkAll r
def uptoBulkEntries {H : Type} : List (Lit × DataW H) → Nat
  | [] => 0
  | x :: r => uptoBulkEntry x + uptoBulkEntries r
def uptoBulkEntry {H : Type} : Lit × DataW H → Nat
  | (.string bytes, d) => bytes.length + uptoBulk d + 1
  | (_, d) => uptoBulk d + 1
 end
def uptoSmall : (H : Type) → List (DataW H) → Bool := fun _ ds => decide (uptoBulkAll ds ≤ 1048576)
def OpenSpec.upto (s : _root_.Go.ChangeSpec) : _root_.Go.OpenSpec := { _root_.Go.OpenSpec.ofChange s with cond := some uptoSmall }

/-- 'trellislaw16.CharpolyTurns', WHERE WHAT IT READS IS OF BULK AT MOST 1048576: true; the input reads as it did. -/
def charpolyTurnsUptoRow : OpenClaim := { program := "ytejliecmdkmgiaa", sum := "3b7ed56e537b5013277c5a2289034f6db8e837a43c5b8682155cbd4385841f0e", func := "trellis/trellislaw16.CharpolyTurns", spec := "charpolyTurns", inPlace := ["math/bits.Add64", "math/bits.Sub64"], unfollowed := true, recurses := true, named := ["math/bits.divideError", "math/bits.overflowError"], apart := false, narrowed := true }
def CharpolyTurnsUptoSaid : Prop := charpolyTurnsUptoRow.holds Try.pinned (OpenSpec.upto charpolyTurnsSpec)

/-- 'trellislaw16.CharpolyCompanions', WHERE WHAT IT READS IS OF BULK AT MOST 1048576: true; the input reads as it did. -/
def charpolyCompanionsUptoRow : OpenClaim := { program := "ytejliecmdkmgiaa", sum := "3b7ed56e537b5013277c5a2289034f6db8e837a43c5b8682155cbd4385841f0e", func := "trellis/trellislaw16.CharpolyCompanions", spec := "charpolyCompanions", inPlace := ["math/bits.Add64", "math/bits.Sub64"], unfollowed := true, recurses := true, named := ["math/bits.divideError", "math/bits.overflowError"], apart := false, narrowed := true }
def CharpolyCompanionsUptoSaid : Prop := charpolyCompanionsUptoRow.holds Try.pinned (OpenSpec.upto charpolyCompanionsSpec)

/-- 'trellislaw16.CharpolyLeast', WHERE WHAT IT READS IS OF BULK AT MOST 1048576: true; the input reads as it did. -/
def charpolyLeastUptoRow : OpenClaim := { program := "ytejliecmdkmgiaa", sum := "3b7ed56e537b5013277c5a2289034f6db8e837a43c5b8682155cbd4385841f0e", func := "trellis/trellislaw16.CharpolyLeast", spec := "charpolyLeast", inPlace := ["math/bits.Add64", "math/bits.Sub64"], unfollowed := true, recurses := true, named := ["math/bits.divideError", "math/bits.overflowError"], apart := false, narrowed := true }
def CharpolyLeastUptoSaid : Prop := charpolyLeastUptoRow.holds Try.pinned (OpenSpec.upto charpolyLeastSpec)

/-- 'trellislaw16.CharpolyDets', WHERE WHAT IT READS IS OF BULK AT MOST 1048576: true; the input reads as it did. -/
def charpolyDetsUptoRow : OpenClaim := { program := "ytejliecmdkmgiaa", sum := "3b7ed56e537b5013277c5a2289034f6db8e837a43c5b8682155cbd4385841f0e", func := "trellis/trellislaw16.CharpolyDets", spec := "charpolyDets", inPlace := ["math/bits.Add64", "math/bits.Sub64"], unfollowed := true, recurses := true, named := ["math/bits.divideError", "math/bits.overflowError"], apart := false, narrowed := true }
def CharpolyDetsUptoSaid : Prop := charpolyDetsUptoRow.holds Try.pinned (OpenSpec.upto charpolyDetsSpec)

/-- 'trellislaw16.CharpolyAts', WHERE WHAT IT READS IS OF BULK AT MOST 1048576: true; the input reads as it did. -/
def charpolyAtsUptoRow : OpenClaim := { program := "ytejliecmdkmgiaa", sum := "3b7ed56e537b5013277c5a2289034f6db8e837a43c5b8682155cbd4385841f0e", func := "trellis/trellislaw16.CharpolyAts", spec := "charpolyAts", inPlace := ["math/bits.Add64", "math/bits.Sub64"], unfollowed := true, recurses := true, named := ["math/bits.divideError", "math/bits.overflowError"], apart := false, narrowed := true }
def CharpolyAtsUptoSaid : Prop := charpolyAtsUptoRow.holds Try.pinned (OpenSpec.upto charpolyAtsSpec)

/-- 'trellislaw14.MinorsAdjugate', WHERE WHAT IT READS IS OF BULK AT MOST 1048576: true; the input reads as it did. -/
def minorsAdjugateUptoRow : OpenClaim := { program := "ytejliecmdkmgiaa", sum := "3b7ed56e537b5013277c5a2289034f6db8e837a43c5b8682155cbd4385841f0e", func := "trellis/trellislaw14.MinorsAdjugate", spec := "minorsAdjugate", inPlace := ["math/bits.Add64", "math/bits.Sub64"], unfollowed := true, recurses := true, named := ["math/bits.divideError", "math/bits.overflowError"], apart := false, narrowed := true }
def MinorsAdjugateUptoSaid : Prop := minorsAdjugateUptoRow.holds Try.pinned (OpenSpec.upto minorsAdjugateSpec)

/-- 'trellislaw14.MinorsCompound', WHERE WHAT IT READS IS OF BULK AT MOST 1048576: true; the input reads as it did. -/
def minorsCompoundUptoRow : OpenClaim := { program := "ytejliecmdkmgiaa", sum := "3b7ed56e537b5013277c5a2289034f6db8e837a43c5b8682155cbd4385841f0e", func := "trellis/trellislaw14.MinorsCompound", spec := "minorsCompound", inPlace := ["math/bits.Add64", "math/bits.Sub64"], unfollowed := true, recurses := true, named := ["math/bits.divideError", "math/bits.overflowError"], apart := false, narrowed := true }
def MinorsCompoundUptoSaid : Prop := minorsCompoundUptoRow.holds Try.pinned (OpenSpec.upto minorsCompoundSpec)

/-- 'trellislaw14.MinorsGcd', WHERE WHAT IT READS IS OF BULK AT MOST 1048576: true; the input reads as it did. -/
def minorsGcdUptoRow : OpenClaim := { program := "ytejliecmdkmgiaa", sum := "3b7ed56e537b5013277c5a2289034f6db8e837a43c5b8682155cbd4385841f0e", func := "trellis/trellislaw14.MinorsGcd", spec := "minorsGcd", inPlace := ["math/bits.Add64", "math/bits.Sub64"], unfollowed := true, recurses := true, named := ["math/bits.divideError", "math/bits.overflowError"], apart := false, narrowed := true }
def MinorsGcdUptoSaid : Prop := minorsGcdUptoRow.holds Try.pinned (OpenSpec.upto minorsGcdSpec)

/-- 'trellislaw23.LllDets', WHERE WHAT IT READS IS OF BULK AT MOST 1048576: true; the input reads as it did. -/
def lllDetsUptoRow : OpenClaim := { program := "ytejliecmdkmgiaa", sum := "3b7ed56e537b5013277c5a2289034f6db8e837a43c5b8682155cbd4385841f0e", func := "trellis/trellislaw23.LllDets", spec := "lllDets", inPlace := ["math/bits.Add64", "math/bits.Sub64"], unfollowed := true, recurses := true, named := ["math/bits.divideError", "math/bits.overflowError"], apart := false, narrowed := true }
def LllDetsUptoSaid : Prop := lllDetsUptoRow.holds Try.pinned (OpenSpec.upto lllDetsSpec)

/-- 'trellislaw17.RrefKernel', WHERE WHAT IT READS IS OF BULK AT MOST 1048576: true; the input reads as it did. -/
def rrefKernelUptoRow : OpenClaim := { program := "ytejliecmdkmgiaa", sum := "3b7ed56e537b5013277c5a2289034f6db8e837a43c5b8682155cbd4385841f0e", func := "trellis/trellislaw17.RrefKernel", spec := "rrefKernel", inPlace := ["math/bits.Add64", "math/bits.Sub64"], unfollowed := true, recurses := true, named := ["math/bits.divideError", "math/bits.overflowError"], apart := false, narrowed := true }
def RrefKernelUptoSaid : Prop := rrefKernelUptoRow.holds Try.pinned (OpenSpec.upto rrefKernelSpec)

/-- 'trellislaw17.RrefInverse', WHERE WHAT IT READS IS OF BULK AT MOST 1048576: true; the input reads as it did. -/
def rrefInverseUptoRow : OpenClaim := { program := "ytejliecmdkmgiaa", sum := "3b7ed56e537b5013277c5a2289034f6db8e837a43c5b8682155cbd4385841f0e", func := "trellis/trellislaw17.RrefInverse", spec := "rrefInverse", inPlace := ["math/bits.Add64", "math/bits.Sub64"], unfollowed := true, recurses := true, named := ["math/bits.divideError", "math/bits.overflowError"], apart := false, narrowed := true }
def RrefInverseUptoSaid : Prop := rrefInverseUptoRow.holds Try.pinned (OpenSpec.upto rrefInverseSpec)

/-- 'trellislaw17.RrefSolution', WHERE WHAT IT READS IS OF BULK AT MOST 1048576: true; the input reads as it did. -/
def rrefSolutionUptoRow : OpenClaim := { program := "ytejliecmdkmgiaa", sum := "3b7ed56e537b5013277c5a2289034f6db8e837a43c5b8682155cbd4385841f0e", func := "trellis/trellislaw17.RrefSolution", spec := "rrefSolution", inPlace := ["math/bits.Add64", "math/bits.Sub64"], unfollowed := true, recurses := true, named := ["math/bits.divideError", "math/bits.overflowError"], apart := false, narrowed := true }
def RrefSolutionUptoSaid : Prop := rrefSolutionUptoRow.holds Try.pinned (OpenSpec.upto rrefSolutionSpec)

end Rows
end Go.Proofs.Ytejliecmdkmgiaa
