/-
  No cell of these rows narrows 'for every input' (looked for: loops, veiled, ifaces, maps, wideKeys, modest, calm, conditions, laid).
  DERIVED. THE GIVEN ROWS OF THIS SEAT. 8 by the template 'for every input the law returns true; each argument reads behind the call as it read before'; 0 by the template 'total and deterministic' (their statements: YtdlpemmoobbgnaaTotals.lean).
  GIVEN WITH THE SEED: the statements are not yours to turn. If you find one false, say at which input.
  Laid BY PROGRAM, IN A SANDBOX (cutbox-rows.mjs): the forced cells as the released guide's own fill.sh prints them over the translation 27d2f64ce2ddc26e… (all of the seat's roots in one cut). By AI agents, Wed Nov 11 2026. No macro, syntax, notation, axiom, sorry.
-/
import Derived.Test.YtdlpemmoobbgnaaChecked
import GoSem.Claim
import GoSem.ClaimJoined
import GoSem.ClaimMapViews
import Derived.JoinedTies
import Derived.KernelRfl
namespace Go.Proofs.Ytdlpemmoobbgnaa
/- THE CELL 'sum', in the pinned program and in every row, IS THE sha256 OF THE DUMP (.gsa) THAT YtdlpemmoobbgnaaProg.lean LOADS. Nothing in Lean hashes anything: it is a label: what it is worth is what the hold of that sum in a sandbox is worth. -/
noncomputable def Try.pinned : Pinned := { name := "ytdlpemmoobbgnaa", sum := "27d2f64ce2ddc26e199f1c5d47892acaaa8f924dc4252b32ddd74d775310a267", checked := Try.checked }
namespace Rows
def none {H : Type} : Left H := { results := [], args := [] }

/-- 'trellislaw12.ModpGap': WHATEVER THE INPUT: true; the input reads as it did. -/
def modpGapSpec : ChangeSpec := { name := "modpGap", fn := fun _ => fun
  | [d1, d2, d3] => { results := [.lit (.bool true)], args := [d1, d2, d3] }
  | _ => none }
def modpGapRow : OpenClaim := { program := "ytdlpemmoobbgnaa", sum := "27d2f64ce2ddc26e199f1c5d47892acaaa8f924dc4252b32ddd74d775310a267", func := "trellis/trellislaw12.ModpGap", spec := "modpGap", named := ["math/bits.divideError", "math/bits.overflowError"], apart := false }
def ModpGapSaid : Prop := modpGapRow.holds Try.pinned (OpenSpec.ofChange modpGapSpec)

/-- ITS FALSE NEIGHBOUR: 'it returns false'. Refute it at one input. -/
def modpGapWrong : ChangeSpec := { name := "modpGap", fn := fun _ => fun
  | [d1, d2, d3] => { results := [.lit (.bool false)], args := [d1, d2, d3] }
  | _ => none }
def ModpGapWrongFalsely : Prop := modpGapRow.holds Try.pinned (OpenSpec.ofChange modpGapWrong)

/-- 'trellislaw12.ModpDets': WHATEVER THE INPUT: true; the input reads as it did. -/
def modpDetsSpec : ChangeSpec := { name := "modpDets", fn := fun _ => fun
  | [d1, d2, d3] => { results := [.lit (.bool true)], args := [d1, d2, d3] }
  | _ => none }
def modpDetsRow : OpenClaim := { program := "ytdlpemmoobbgnaa", sum := "27d2f64ce2ddc26e199f1c5d47892acaaa8f924dc4252b32ddd74d775310a267", func := "trellis/trellislaw12.ModpDets", spec := "modpDets", named := ["math/bits.divideError", "math/bits.overflowError"], apart := false }
def ModpDetsSaid : Prop := modpDetsRow.holds Try.pinned (OpenSpec.ofChange modpDetsSpec)

/-- ITS FALSE NEIGHBOUR: 'it returns false'. Refute it at one input. -/
def modpDetsWrong : ChangeSpec := { name := "modpDets", fn := fun _ => fun
  | [d1, d2, d3] => { results := [.lit (.bool false)], args := [d1, d2, d3] }
  | _ => none }
def ModpDetsWrongFalsely : Prop := modpDetsRow.holds Try.pinned (OpenSpec.ofChange modpDetsWrong)

/-- 'trellislaw12.ModpSame': WHATEVER THE INPUT: true; the input reads as it did. -/
def modpSameSpec : ChangeSpec := { name := "modpSame", fn := fun _ => fun
  | [d1, d2, d3] => { results := [.lit (.bool true)], args := [d1, d2, d3] }
  | _ => none }
def modpSameRow : OpenClaim := { program := "ytdlpemmoobbgnaa", sum := "27d2f64ce2ddc26e199f1c5d47892acaaa8f924dc4252b32ddd74d775310a267", func := "trellis/trellislaw12.ModpSame", spec := "modpSame", named := ["math/bits.divideError", "math/bits.overflowError"], apart := false }
def ModpSameSaid : Prop := modpSameRow.holds Try.pinned (OpenSpec.ofChange modpSameSpec)

/-- ITS FALSE NEIGHBOUR: 'it returns false'. Refute it at one input. -/
def modpSameWrong : ChangeSpec := { name := "modpSame", fn := fun _ => fun
  | [d1, d2, d3] => { results := [.lit (.bool false)], args := [d1, d2, d3] }
  | _ => none }
def ModpSameWrongFalsely : Prop := modpSameRow.holds Try.pinned (OpenSpec.ofChange modpSameWrong)

/-- 'trellislaw12.ModpSolves': WHATEVER THE INPUT: true; the input reads as it did. -/
def modpSolvesSpec : ChangeSpec := { name := "modpSolves", fn := fun _ => fun
  | [d1, d2, d3] => { results := [.lit (.bool true)], args := [d1, d2, d3] }
  | _ => none }
def modpSolvesRow : OpenClaim := { program := "ytdlpemmoobbgnaa", sum := "27d2f64ce2ddc26e199f1c5d47892acaaa8f924dc4252b32ddd74d775310a267", func := "trellis/trellislaw12.ModpSolves", spec := "modpSolves", named := ["math/bits.divideError", "math/bits.overflowError"], apart := false }
def ModpSolvesSaid : Prop := modpSolvesRow.holds Try.pinned (OpenSpec.ofChange modpSolvesSpec)

/-- ITS FALSE NEIGHBOUR: 'it returns false'. Refute it at one input. -/
def modpSolvesWrong : ChangeSpec := { name := "modpSolves", fn := fun _ => fun
  | [d1, d2, d3] => { results := [.lit (.bool false)], args := [d1, d2, d3] }
  | _ => none }
def ModpSolvesWrongFalsely : Prop := modpSolvesRow.holds Try.pinned (OpenSpec.ofChange modpSolvesWrong)

/-- 'trellislaw12.ModpAll': WHATEVER THE INPUT: true; the input reads as it did. -/
def modpAllSpec : ChangeSpec := { name := "modpAll", fn := fun _ => fun
  | [d] => { results := [.lit (.bool true)], args := [d] }
  | _ => none }
def modpAllRow : OpenClaim := { program := "ytdlpemmoobbgnaa", sum := "27d2f64ce2ddc26e199f1c5d47892acaaa8f924dc4252b32ddd74d775310a267", func := "trellis/trellislaw12.ModpAll", spec := "modpAll", named := ["math/bits.divideError", "math/bits.overflowError"], apart := false }
def ModpAllSaid : Prop := modpAllRow.holds Try.pinned (OpenSpec.ofChange modpAllSpec)

/-- ITS FALSE NEIGHBOUR: 'it returns false'. Refute it at one input. -/
def modpAllWrong : ChangeSpec := { name := "modpAll", fn := fun _ => fun
  | [d] => { results := [.lit (.bool false)], args := [d] }
  | _ => none }
def ModpAllWrongFalsely : Prop := modpAllRow.holds Try.pinned (OpenSpec.ofChange modpAllWrong)

/-- 'trellislaw12.ModpRefuses': WHATEVER THE INPUT: true; the input reads as it did. -/
def modpRefusesSpec : ChangeSpec := { name := "modpRefuses", fn := fun _ => fun
  | [d1, d2] => { results := [.lit (.bool true)], args := [d1, d2] }
  | _ => none }
def modpRefusesRow : OpenClaim := { program := "ytdlpemmoobbgnaa", sum := "27d2f64ce2ddc26e199f1c5d47892acaaa8f924dc4252b32ddd74d775310a267", func := "trellis/trellislaw12.ModpRefuses", spec := "modpRefuses", named := ["math/bits.divideError", "math/bits.overflowError"], apart := false }
def ModpRefusesSaid : Prop := modpRefusesRow.holds Try.pinned (OpenSpec.ofChange modpRefusesSpec)

/-- ITS FALSE NEIGHBOUR: 'it returns false'. Refute it at one input. -/
def modpRefusesWrong : ChangeSpec := { name := "modpRefuses", fn := fun _ => fun
  | [d1, d2] => { results := [.lit (.bool false)], args := [d1, d2] }
  | _ => none }
def ModpRefusesWrongFalsely : Prop := modpRefusesRow.holds Try.pinned (OpenSpec.ofChange modpRefusesWrong)

/-- 'trellislaw12.ModpKernels': WHATEVER THE INPUT: true; the input reads as it did. -/
def modpKernelsSpec : ChangeSpec := { name := "modpKernels", fn := fun _ => fun
  | [d1, d2] => { results := [.lit (.bool true)], args := [d1, d2] }
  | _ => none }
def modpKernelsRow : OpenClaim := { program := "ytdlpemmoobbgnaa", sum := "27d2f64ce2ddc26e199f1c5d47892acaaa8f924dc4252b32ddd74d775310a267", func := "trellis/trellislaw12.ModpKernels", spec := "modpKernels", named := ["math/bits.divideError", "math/bits.overflowError"], apart := false }
def ModpKernelsSaid : Prop := modpKernelsRow.holds Try.pinned (OpenSpec.ofChange modpKernelsSpec)

/-- ITS FALSE NEIGHBOUR: 'it returns false'. Refute it at one input. -/
def modpKernelsWrong : ChangeSpec := { name := "modpKernels", fn := fun _ => fun
  | [d1, d2] => { results := [.lit (.bool false)], args := [d1, d2] }
  | _ => none }
def ModpKernelsWrongFalsely : Prop := modpKernelsRow.holds Try.pinned (OpenSpec.ofChange modpKernelsWrong)

/-- 'trellislaw12.ModpMemory': WHATEVER THE INPUT: true; the input reads as it did. -/
def modpMemorySpec : ChangeSpec := { name := "modpMemory", fn := fun _ => fun
  | [d1, d2, d3] => { results := [.lit (.bool true)], args := [d1, d2, d3] }
  | _ => none }
def modpMemoryRow : OpenClaim := { program := "ytdlpemmoobbgnaa", sum := "27d2f64ce2ddc26e199f1c5d47892acaaa8f924dc4252b32ddd74d775310a267", func := "trellis/trellislaw12.ModpMemory", spec := "modpMemory", named := ["math/bits.divideError", "math/bits.overflowError"], apart := false }
def ModpMemorySaid : Prop := modpMemoryRow.holds Try.pinned (OpenSpec.ofChange modpMemorySpec)

/-- ITS FALSE NEIGHBOUR: 'it returns false'. Refute it at one input. -/
def modpMemoryWrong : ChangeSpec := { name := "modpMemory", fn := fun _ => fun
  | [d1, d2, d3] => { results := [.lit (.bool false)], args := [d1, d2, d3] }
  | _ => none }
def ModpMemoryWrongFalsely : Prop := modpMemoryRow.holds Try.pinned (OpenSpec.ofChange modpMemoryWrong)

/- THE SECOND FORM. 'bulk': how many values and letters a reading holds, each counted each time it is reached (what is shared counts as often as it is met; a slice's spare places count too). A statement '..UptoSaid' is the law's where the arguments, and the package variables that the reading takes, are together of bulk at most 1048576: NARROWER than '..Said'. Prove '..Said' where nothing that the law and all that it calls make is longer than what came in: it says more and counts as full. Else prove '..UptoSaid'. A law counts once. -/
mutual
def uptoBulk {H : Type} : DataW H → Nat
  | .lit (.string bytes) => bytes.length + 1
  | .lit _ => 1
  | .nil => 1
  | .ptr d => uptoBulk d + 1
  | .slice elems spare => uptoBulkAll elems + uptoBulkAll spare + 1
  | .agg parts => uptoBulkAll parts + 1
  | .iface _ d => uptoBulk d + 1
  | .map entries => uptoBulkEntries entries + 1
  | .held _ => 1
def uptoBulkAll {H : Type} : List (DataW H) → Nat
  | [] => 0
  | d :: r => uptoBulk d + uptoBulkAll r
def uptoBulkEntries {H : Type} : List (Lit × DataW H) → Nat
  | [] => 0
  | x :: r => uptoBulkEntry x + uptoBulkEntries r
def uptoBulkEntry {H : Type} : Lit × DataW H → Nat
  | (.string bytes, d) => bytes.length + uptoBulk d + 1
  | (_, d) => uptoBulk d + 1
 end
def uptoSmall : (H : Type) → List (DataW H) → Bool := fun _ ds => decide (uptoBulkAll ds ≤ 1048576)
def OpenSpec.upto (s : _root_.Go.ChangeSpec) : _root_.Go.OpenSpec := { _root_.Go.OpenSpec.ofChange s with cond := some uptoSmall }

/-- 'trellislaw12.ModpGap', WHERE WHAT IT READS IS OF BULK AT MOST 1048576: true; the input reads as it did. -/
def modpGapUptoRow : OpenClaim := { program := "ytdlpemmoobbgnaa", sum := "27d2f64ce2ddc26e199f1c5d47892acaaa8f924dc4252b32ddd74d775310a267", func := "trellis/trellislaw12.ModpGap", spec := "modpGap", named := ["math/bits.divideError", "math/bits.overflowError"], apart := false, narrowed := true }
def ModpGapUptoSaid : Prop := modpGapUptoRow.holds Try.pinned (OpenSpec.upto modpGapSpec)

/-- 'trellislaw12.ModpDets', WHERE WHAT IT READS IS OF BULK AT MOST 1048576: true; the input reads as it did. -/
def modpDetsUptoRow : OpenClaim := { program := "ytdlpemmoobbgnaa", sum := "27d2f64ce2ddc26e199f1c5d47892acaaa8f924dc4252b32ddd74d775310a267", func := "trellis/trellislaw12.ModpDets", spec := "modpDets", named := ["math/bits.divideError", "math/bits.overflowError"], apart := false, narrowed := true }
def ModpDetsUptoSaid : Prop := modpDetsUptoRow.holds Try.pinned (OpenSpec.upto modpDetsSpec)

/-- 'trellislaw12.ModpSame', WHERE WHAT IT READS IS OF BULK AT MOST 1048576: true; the input reads as it did. -/
def modpSameUptoRow : OpenClaim := { program := "ytdlpemmoobbgnaa", sum := "27d2f64ce2ddc26e199f1c5d47892acaaa8f924dc4252b32ddd74d775310a267", func := "trellis/trellislaw12.ModpSame", spec := "modpSame", named := ["math/bits.divideError", "math/bits.overflowError"], apart := false, narrowed := true }
def ModpSameUptoSaid : Prop := modpSameUptoRow.holds Try.pinned (OpenSpec.upto modpSameSpec)

/-- 'trellislaw12.ModpSolves', WHERE WHAT IT READS IS OF BULK AT MOST 1048576: true; the input reads as it did. -/
def modpSolvesUptoRow : OpenClaim := { program := "ytdlpemmoobbgnaa", sum := "27d2f64ce2ddc26e199f1c5d47892acaaa8f924dc4252b32ddd74d775310a267", func := "trellis/trellislaw12.ModpSolves", spec := "modpSolves", named := ["math/bits.divideError", "math/bits.overflowError"], apart := false, narrowed := true }
def ModpSolvesUptoSaid : Prop := modpSolvesUptoRow.holds Try.pinned (OpenSpec.upto modpSolvesSpec)

/-- 'trellislaw12.ModpAll', WHERE WHAT IT READS IS OF BULK AT MOST 1048576: true; the input reads as it did. -/
def modpAllUptoRow : OpenClaim := { program := "ytdlpemmoobbgnaa", sum := "27d2f64ce2ddc26e199f1c5d47892acaaa8f924dc4252b32ddd74d775310a267", func := "trellis/trellislaw12.ModpAll", spec := "modpAll", named := ["math/bits.divideError", "math/bits.overflowError"], apart := false, narrowed := true }
def ModpAllUptoSaid : Prop := modpAllUptoRow.holds Try.pinned (OpenSpec.upto modpAllSpec)

/-- 'trellislaw12.ModpRefuses', WHERE WHAT IT READS IS OF BULK AT MOST 1048576: true; the input reads as it did. -/
def modpRefusesUptoRow : OpenClaim := { program := "ytdlpemmoobbgnaa", sum := "27d2f64ce2ddc26e199f1c5d47892acaaa8f924dc4252b32ddd74d775310a267", func := "trellis/trellislaw12.ModpRefuses", spec := "modpRefuses", named := ["math/bits.divideError", "math/bits.overflowError"], apart := false, narrowed := true }
def ModpRefusesUptoSaid : Prop := modpRefusesUptoRow.holds Try.pinned (OpenSpec.upto modpRefusesSpec)

/-- 'trellislaw12.ModpKernels', WHERE WHAT IT READS IS OF BULK AT MOST 1048576: true; the input reads as it did. -/
def modpKernelsUptoRow : OpenClaim := { program := "ytdlpemmoobbgnaa", sum := "27d2f64ce2ddc26e199f1c5d47892acaaa8f924dc4252b32ddd74d775310a267", func := "trellis/trellislaw12.ModpKernels", spec := "modpKernels", named := ["math/bits.divideError", "math/bits.overflowError"], apart := false, narrowed := true }
def ModpKernelsUptoSaid : Prop := modpKernelsUptoRow.holds Try.pinned (OpenSpec.upto modpKernelsSpec)

/-- 'trellislaw12.ModpMemory', WHERE WHAT IT READS IS OF BULK AT MOST 1048576: true; the input reads as it did. -/
def modpMemoryUptoRow : OpenClaim := { program := "ytdlpemmoobbgnaa", sum := "27d2f64ce2ddc26e199f1c5d47892acaaa8f924dc4252b32ddd74d775310a267", func := "trellis/trellislaw12.ModpMemory", spec := "modpMemory", named := ["math/bits.divideError", "math/bits.overflowError"], apart := false, narrowed := true }
def ModpMemoryUptoSaid : Prop := modpMemoryUptoRow.holds Try.pinned (OpenSpec.upto modpMemorySpec)

end Rows
end Go.Proofs.Ytdlpemmoobbgnaa
