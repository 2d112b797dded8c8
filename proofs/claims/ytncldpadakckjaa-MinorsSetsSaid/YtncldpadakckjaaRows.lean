/-
  No cell of these rows narrows 'for every input' (looked for: loops, veiled, ifaces, maps, wideKeys, modest, calm, conditions, laid).
  DERIVED. THE GIVEN ROWS OF THIS SEAT. 10 by the template 'for every input the law returns true; each argument reads behind the call as it read before'; 0 by the template 'total and deterministic' (their statements: YtncldpadakckjaaTotals.lean).
  GIVEN WITH THE SEED: the statements are not yours to turn. If you find one false, say at which input.
  Laid BY PROGRAM, IN A SANDBOX (cutbox-rows.mjs): the forced cells as the released guide's own fill.sh prints them over the translation 912d48a7c5f08015… (all of the seat's roots in one cut). By AI agents, Wed Nov 11 2026. No macro, syntax, notation, axiom, sorry.
-/
import Derived.Test.YtncldpadakckjaaChecked
import GoSem.Claim
import GoSem.ClaimJoined
import GoSem.ClaimMapViews
import Derived.JoinedTies
import Derived.KernelRfl
namespace Go.Proofs.Ytncldpadakckjaa
/- THE CELL 'sum', in the pinned program and in every row, IS THE sha256 OF THE DUMP (.gsa) THAT YtncldpadakckjaaProg.lean LOADS. Nothing in Lean hashes anything: it is a label: what it is worth is what the hold of that sum in a sandbox is worth. -/
noncomputable def Try.pinned : Pinned := { name := "ytncldpadakckjaa", sum := "912d48a7c5f08015c8ae2e04a917e0fead2408d633f6975d4710bf3d7f141740", checked := Try.checked }
namespace Rows
def none {H : Type} : Left H := { results := [], args := [] }

/-- 'trellislaw13.BareissSets': WHATEVER THE INPUT: true; the input reads as it did. -/
def bareissSetsSpec : ChangeSpec := { name := "bareissSets", fn := fun _ => fun
  | [d1, d2] => { results := [.lit (.bool true)], args := [d1, d2] }
  | _ => none }
def bareissSetsRow : OpenClaim := { program := "ytncldpadakckjaa", sum := "912d48a7c5f08015c8ae2e04a917e0fead2408d633f6975d4710bf3d7f141740", func := "trellis/trellislaw13.BareissSets", spec := "bareissSets", inPlace := ["math/bits.Add64", "math/bits.Sub64"], unfollowed := true, recurses := true, named := ["math/bits.divideError", "math/bits.overflowError"], apart := false }
def BareissSetsSaid : Prop := bareissSetsRow.holds Try.pinned (OpenSpec.ofChange bareissSetsSpec)

/-- ITS FALSE NEIGHBOUR: 'it returns false'. Refute it at one input. -/
def bareissSetsWrong : ChangeSpec := { name := "bareissSets", fn := fun _ => fun
  | [d1, d2] => { results := [.lit (.bool false)], args := [d1, d2] }
  | _ => none }
def BareissSetsWrongFalsely : Prop := bareissSetsRow.holds Try.pinned (OpenSpec.ofChange bareissSetsWrong)

/-- 'trellislaw13.BareissNull': WHATEVER THE INPUT: true; the input reads as it did. -/
def bareissNullSpec : ChangeSpec := { name := "bareissNull", fn := fun _ => fun
  | [d1, d2] => { results := [.lit (.bool true)], args := [d1, d2] }
  | _ => none }
def bareissNullRow : OpenClaim := { program := "ytncldpadakckjaa", sum := "912d48a7c5f08015c8ae2e04a917e0fead2408d633f6975d4710bf3d7f141740", func := "trellis/trellislaw13.BareissNull", spec := "bareissNull", inPlace := ["math/bits.Add64", "math/bits.Sub64"], unfollowed := true, recurses := true, named := ["math/bits.divideError", "math/bits.overflowError"], apart := false }
def BareissNullSaid : Prop := bareissNullRow.holds Try.pinned (OpenSpec.ofChange bareissNullSpec)

/-- ITS FALSE NEIGHBOUR: 'it returns false'. Refute it at one input. -/
def bareissNullWrong : ChangeSpec := { name := "bareissNull", fn := fun _ => fun
  | [d1, d2] => { results := [.lit (.bool false)], args := [d1, d2] }
  | _ => none }
def BareissNullWrongFalsely : Prop := bareissNullRow.holds Try.pinned (OpenSpec.ofChange bareissNullWrong)

/-- 'trellislaw14.MinorsSets': WHATEVER THE INPUT: true; the input reads as it did. -/
def minorsSetsSpec : ChangeSpec := { name := "minorsSets", fn := fun _ => fun
  | [d1, d2, d3] => { results := [.lit (.bool true)], args := [d1, d2, d3] }
  | _ => none }
def minorsSetsRow : OpenClaim := { program := "ytncldpadakckjaa", sum := "912d48a7c5f08015c8ae2e04a917e0fead2408d633f6975d4710bf3d7f141740", func := "trellis/trellislaw14.MinorsSets", spec := "minorsSets", inPlace := ["math/bits.Add64", "math/bits.Sub64"], unfollowed := true, recurses := true, named := ["math/bits.divideError", "math/bits.overflowError"], apart := false }
def MinorsSetsSaid : Prop := minorsSetsRow.holds Try.pinned (OpenSpec.ofChange minorsSetsSpec)

/-- ITS FALSE NEIGHBOUR: 'it returns false'. Refute it at one input. -/
def minorsSetsWrong : ChangeSpec := { name := "minorsSets", fn := fun _ => fun
  | [d1, d2, d3] => { results := [.lit (.bool false)], args := [d1, d2, d3] }
  | _ => none }
def MinorsSetsWrongFalsely : Prop := minorsSetsRow.holds Try.pinned (OpenSpec.ofChange minorsSetsWrong)

/-- 'trellislaw14.MinorsSetsAgain': WHATEVER THE INPUT: true; the input reads as it did. -/
def minorsSetsAgainSpec : ChangeSpec := { name := "minorsSetsAgain", fn := fun _ => fun
  | [d1, d2, d3] => { results := [.lit (.bool true)], args := [d1, d2, d3] }
  | _ => none }
def minorsSetsAgainRow : OpenClaim := { program := "ytncldpadakckjaa", sum := "912d48a7c5f08015c8ae2e04a917e0fead2408d633f6975d4710bf3d7f141740", func := "trellis/trellislaw14.MinorsSetsAgain", spec := "minorsSetsAgain", inPlace := ["math/bits.Add64", "math/bits.Sub64"], unfollowed := true, recurses := true, named := ["math/bits.divideError", "math/bits.overflowError"], apart := false }
def MinorsSetsAgainSaid : Prop := minorsSetsAgainRow.holds Try.pinned (OpenSpec.ofChange minorsSetsAgainSpec)

/-- ITS FALSE NEIGHBOUR: 'it returns false'. Refute it at one input. -/
def minorsSetsAgainWrong : ChangeSpec := { name := "minorsSetsAgain", fn := fun _ => fun
  | [d1, d2, d3] => { results := [.lit (.bool false)], args := [d1, d2, d3] }
  | _ => none }
def MinorsSetsAgainWrongFalsely : Prop := minorsSetsAgainRow.holds Try.pinned (OpenSpec.ofChange minorsSetsAgainWrong)

/-- 'trellislaw13.BareissCores': WHATEVER THE INPUT: true; the input reads as it did. -/
def bareissCoresSpec : ChangeSpec := { name := "bareissCores", fn := fun _ => fun
  | [d1, d2, d3] => { results := [.lit (.bool true)], args := [d1, d2, d3] }
  | _ => none }
def bareissCoresRow : OpenClaim := { program := "ytncldpadakckjaa", sum := "912d48a7c5f08015c8ae2e04a917e0fead2408d633f6975d4710bf3d7f141740", func := "trellis/trellislaw13.BareissCores", spec := "bareissCores", inPlace := ["math/bits.Add64", "math/bits.Sub64"], unfollowed := true, recurses := true, named := ["math/bits.divideError", "math/bits.overflowError"], apart := false }
def BareissCoresSaid : Prop := bareissCoresRow.holds Try.pinned (OpenSpec.ofChange bareissCoresSpec)

/-- ITS FALSE NEIGHBOUR: 'it returns false'. Refute it at one input. -/
def bareissCoresWrong : ChangeSpec := { name := "bareissCores", fn := fun _ => fun
  | [d1, d2, d3] => { results := [.lit (.bool false)], args := [d1, d2, d3] }
  | _ => none }
def BareissCoresWrongFalsely : Prop := bareissCoresRow.holds Try.pinned (OpenSpec.ofChange bareissCoresWrong)

/-- 'trellislaw13.BareissLeads': WHATEVER THE INPUT: true; the input reads as it did. -/
def bareissLeadsSpec : ChangeSpec := { name := "bareissLeads", fn := fun _ => fun
  | [d1, d2] => { results := [.lit (.bool true)], args := [d1, d2] }
  | _ => none }
def bareissLeadsRow : OpenClaim := { program := "ytncldpadakckjaa", sum := "912d48a7c5f08015c8ae2e04a917e0fead2408d633f6975d4710bf3d7f141740", func := "trellis/trellislaw13.BareissLeads", spec := "bareissLeads", inPlace := ["math/bits.Add64", "math/bits.Sub64"], unfollowed := true, recurses := true, named := ["math/bits.divideError", "math/bits.overflowError"], apart := false }
def BareissLeadsSaid : Prop := bareissLeadsRow.holds Try.pinned (OpenSpec.ofChange bareissLeadsSpec)

/-- ITS FALSE NEIGHBOUR: 'it returns false'. Refute it at one input. -/
def bareissLeadsWrong : ChangeSpec := { name := "bareissLeads", fn := fun _ => fun
  | [d1, d2] => { results := [.lit (.bool false)], args := [d1, d2] }
  | _ => none }
def BareissLeadsWrongFalsely : Prop := bareissLeadsRow.holds Try.pinned (OpenSpec.ofChange bareissLeadsWrong)

/-- 'trellislaw13.BareissExpands': WHATEVER THE INPUT: true; the input reads as it did. -/
def bareissExpandsSpec : ChangeSpec := { name := "bareissExpands", fn := fun _ => fun
  | [d1, d2] => { results := [.lit (.bool true)], args := [d1, d2] }
  | _ => none }
def bareissExpandsRow : OpenClaim := { program := "ytncldpadakckjaa", sum := "912d48a7c5f08015c8ae2e04a917e0fead2408d633f6975d4710bf3d7f141740", func := "trellis/trellislaw13.BareissExpands", spec := "bareissExpands", inPlace := ["math/bits.Add64", "math/bits.Sub64"], unfollowed := true, recurses := true, named := ["math/bits.divideError", "math/bits.overflowError"], apart := false }
def BareissExpandsSaid : Prop := bareissExpandsRow.holds Try.pinned (OpenSpec.ofChange bareissExpandsSpec)

/-- ITS FALSE NEIGHBOUR: 'it returns false'. Refute it at one input. -/
def bareissExpandsWrong : ChangeSpec := { name := "bareissExpands", fn := fun _ => fun
  | [d1, d2] => { results := [.lit (.bool false)], args := [d1, d2] }
  | _ => none }
def BareissExpandsWrongFalsely : Prop := bareissExpandsRow.holds Try.pinned (OpenSpec.ofChange bareissExpandsWrong)

/-- 'trellislaw13.BareissProducts': WHATEVER THE INPUT: true; the input reads as it did. -/
def bareissProductsSpec : ChangeSpec := { name := "bareissProducts", fn := fun _ => fun
  | [d1, d2] => { results := [.lit (.bool true)], args := [d1, d2] }
  | _ => none }
def bareissProductsRow : OpenClaim := { program := "ytncldpadakckjaa", sum := "912d48a7c5f08015c8ae2e04a917e0fead2408d633f6975d4710bf3d7f141740", func := "trellis/trellislaw13.BareissProducts", spec := "bareissProducts", inPlace := ["math/bits.Add64", "math/bits.Sub64"], unfollowed := true, recurses := true, named := ["math/bits.divideError", "math/bits.overflowError"], apart := false }
def BareissProductsSaid : Prop := bareissProductsRow.holds Try.pinned (OpenSpec.ofChange bareissProductsSpec)

/-- ITS FALSE NEIGHBOUR: 'it returns false'. Refute it at one input. -/
def bareissProductsWrong : ChangeSpec := { name := "bareissProducts", fn := fun _ => fun
  | [d1, d2] => { results := [.lit (.bool false)], args := [d1, d2] }
  | _ => none }
def BareissProductsWrongFalsely : Prop := bareissProductsRow.holds Try.pinned (OpenSpec.ofChange bareissProductsWrong)

/-- 'trellislaw14.MinorsCompound': WHATEVER THE INPUT: true; the input reads as it did. -/
def minorsCompoundSpec : ChangeSpec := { name := "minorsCompound", fn := fun _ => fun
  | [d1, d2] => { results := [.lit (.bool true)], args := [d1, d2] }
  | _ => none }
def minorsCompoundRow : OpenClaim := { program := "ytncldpadakckjaa", sum := "912d48a7c5f08015c8ae2e04a917e0fead2408d633f6975d4710bf3d7f141740", func := "trellis/trellislaw14.MinorsCompound", spec := "minorsCompound", inPlace := ["math/bits.Add64", "math/bits.Sub64"], unfollowed := true, recurses := true, named := ["math/bits.divideError", "math/bits.overflowError"], apart := false }
def MinorsCompoundSaid : Prop := minorsCompoundRow.holds Try.pinned (OpenSpec.ofChange minorsCompoundSpec)

/-- ITS FALSE NEIGHBOUR: 'it returns false'. Refute it at one input. -/
def minorsCompoundWrong : ChangeSpec := { name := "minorsCompound", fn := fun _ => fun
  | [d1, d2] => { results := [.lit (.bool false)], args := [d1, d2] }
  | _ => none }
def MinorsCompoundWrongFalsely : Prop := minorsCompoundRow.holds Try.pinned (OpenSpec.ofChange minorsCompoundWrong)

/-- 'trellislaw14.MinorsExpand': WHATEVER THE INPUT: true; the input reads as it did. -/
def minorsExpandSpec : ChangeSpec := { name := "minorsExpand", fn := fun _ => fun
  | [d1, d2] => { results := [.lit (.bool true)], args := [d1, d2] }
  | _ => none }
def minorsExpandRow : OpenClaim := { program := "ytncldpadakckjaa", sum := "912d48a7c5f08015c8ae2e04a917e0fead2408d633f6975d4710bf3d7f141740", func := "trellis/trellislaw14.MinorsExpand", spec := "minorsExpand", inPlace := ["math/bits.Add64", "math/bits.Sub64"], unfollowed := true, recurses := true, named := ["math/bits.divideError", "math/bits.overflowError"], apart := false }
def MinorsExpandSaid : Prop := minorsExpandRow.holds Try.pinned (OpenSpec.ofChange minorsExpandSpec)

/-- ITS FALSE NEIGHBOUR: 'it returns false'. Refute it at one input. -/
def minorsExpandWrong : ChangeSpec := { name := "minorsExpand", fn := fun _ => fun
  | [d1, d2] => { results := [.lit (.bool false)], args := [d1, d2] }
  | _ => none }
def MinorsExpandWrongFalsely : Prop := minorsExpandRow.holds Try.pinned (OpenSpec.ofChange minorsExpandWrong)

/- THE SECOND FORM. 'bulk': how many values and letters a reading holds, each counted each time it is reached (what is shared counts as often as it is met; a slice's spare places count too). A statement '..UptoSaid' is the law's where the arguments, and the package variables that the reading takes, are together of bulk at most 1048576: NARROWER than '..Said'. Prove '..Said' where nothing that the law and all that it calls make is longer than what came in: it says more and counts as full. Else prove '..UptoSaid'. A law counts once. -/
mutual
def uptoBulk {H : Type} : DataW H → Nat
  | .lit (.string bytes) => bytes.length + 1
  | .lit _ => 1
  | .nil => 1
  | .ptr d => uptoBulk d + 1
  | .slice elems spare => uptoBulkAll elems + uptoBulkAll spare + 1
  | .agg parts => uptoBulkAll parts + 1
  | .iface _ d => uptoBulk d + 1
  | .map entries => uptoBulkEntries entries + 1
  | .held _ => 1
def uptoBulkAll {H : Type} : List (DataW H) → Nat
  | [] => 0
  | d :: r => uptoBulk d + uptoBulkAll r
def uptoBulkEntries {H : Type} : List (Lit × DataW H) → Nat
  | [] => 0
  | x :: r => uptoBulkEntry x + uptoBulkEntries r
def uptoBulkEntry {H : Type} : Lit × DataW H → Nat
  | (.string bytes, d) => bytes.length + uptoBulk d + 1
  | (_, d) => uptoBulk d + 1
 end
def uptoSmall : (H : Type) → List (DataW H) → Bool := fun _ ds => decide (uptoBulkAll ds ≤ 1048576)
def OpenSpec.upto (s : _root_.Go.ChangeSpec) : _root_.Go.OpenSpec := { _root_.Go.OpenSpec.ofChange s with cond := some uptoSmall }

/-- 'trellislaw13.BareissSets', WHERE WHAT IT READS IS OF BULK AT MOST 1048576: true; the input reads as it did. -/
def bareissSetsUptoRow : OpenClaim := { program := "ytncldpadakckjaa", sum := "912d48a7c5f08015c8ae2e04a917e0fead2408d633f6975d4710bf3d7f141740", func := "trellis/trellislaw13.BareissSets", spec := "bareissSets", inPlace := ["math/bits.Add64", "math/bits.Sub64"], unfollowed := true, recurses := true, named := ["math/bits.divideError", "math/bits.overflowError"], apart := false, narrowed := true }
def BareissSetsUptoSaid : Prop := bareissSetsUptoRow.holds Try.pinned (OpenSpec.upto bareissSetsSpec)

/-- 'trellislaw13.BareissNull', WHERE WHAT IT READS IS OF BULK AT MOST 1048576: true; the input reads as it did. -/
def bareissNullUptoRow : OpenClaim := { program := "ytncldpadakckjaa", sum := "912d48a7c5f08015c8ae2e04a917e0fead2408d633f6975d4710bf3d7f141740", func := "trellis/trellislaw13.BareissNull", spec := "bareissNull", inPlace := ["math/bits.Add64", "math/bits.Sub64"], unfollowed := true, recurses := true, named := ["math/bits.divideError", "math/bits.overflowError"], apart := false, narrowed := true }
def BareissNullUptoSaid : Prop := bareissNullUptoRow.holds Try.pinned (OpenSpec.upto bareissNullSpec)

/-- 'trellislaw14.MinorsSets', WHERE WHAT IT READS IS OF BULK AT MOST 1048576: true; the input reads as it did. -/
def minorsSetsUptoRow : OpenClaim := { program := "ytncldpadakckjaa", sum := "912d48a7c5f08015c8ae2e04a917e0fead2408d633f6975d4710bf3d7f141740", func := "trellis/trellislaw14.MinorsSets", spec := "minorsSets", inPlace := ["math/bits.Add64", "math/bits.Sub64"], unfollowed := true, recurses := true, named := ["math/bits.divideError", "math/bits.overflowError"], apart := false, narrowed := true }
def MinorsSetsUptoSaid : Prop := minorsSetsUptoRow.holds Try.pinned (OpenSpec.upto minorsSetsSpec)

/-- 'trellislaw14.MinorsSetsAgain', WHERE WHAT IT READS IS OF BULK AT MOST 1048576: true; the input reads as it did. -/
def minorsSetsAgainUptoRow : OpenClaim := { program := "ytncldpadakckjaa", sum := "912d48a7c5f08015c8ae2e04a917e0fead2408d633f6975d4710bf3d7f141740", func := "trellis/trellislaw14.MinorsSetsAgain", spec := "minorsSetsAgain", inPlace := ["math/bits.Add64", "math/bits.Sub64"], unfollowed := true, recurses := true, named := ["math/bits.divideError", "math/bits.overflowError"], apart := false, narrowed := true }
def MinorsSetsAgainUptoSaid : Prop := minorsSetsAgainUptoRow.holds Try.pinned (OpenSpec.upto minorsSetsAgainSpec)

/-- 'trellislaw13.BareissCores', WHERE WHAT IT READS IS OF BULK AT MOST 1048576: true; the input reads as it did. -/
def bareissCoresUptoRow : OpenClaim := { program := "ytncldpadakckjaa", sum := "912d48a7c5f08015c8ae2e04a917e0fead2408d633f6975d4710bf3d7f141740", func := "trellis/trellislaw13.BareissCores", spec := "bareissCores", inPlace := ["math/bits.Add64", "math/bits.Sub64"], unfollowed := true, recurses := true, named := ["math/bits.divideError", "math/bits.overflowError"], apart := false, narrowed := true }
def BareissCoresUptoSaid : Prop := bareissCoresUptoRow.holds Try.pinned (OpenSpec.upto bareissCoresSpec)

/-- 'trellislaw13.BareissLeads', WHERE WHAT IT READS IS OF BULK AT MOST 1048576: true; the input reads as it did. -/
def bareissLeadsUptoRow : OpenClaim := { program := "ytncldpadakckjaa", sum := "912d48a7c5f08015c8ae2e04a917e0fead2408d633f6975d4710bf3d7f141740", func := "trellis/trellislaw13.BareissLeads", spec := "bareissLeads", inPlace := ["math/bits.Add64", "math/bits.Sub64"], unfollowed := true, recurses := true, named := ["math/bits.divideError", "math/bits.overflowError"], apart := false, narrowed := true }
def BareissLeadsUptoSaid : Prop := bareissLeadsUptoRow.holds Try.pinned (OpenSpec.upto bareissLeadsSpec)

/-- 'trellislaw13.BareissExpands', WHERE WHAT IT READS IS OF BULK AT MOST 1048576: true; the input reads as it did. -/
def bareissExpandsUptoRow : OpenClaim := { program := "ytncldpadakckjaa", sum := "912d48a7c5f08015c8ae2e04a917e0fead2408d633f6975d4710bf3d7f141740", func := "trellis/trellislaw13.BareissExpands", spec := "bareissExpands", inPlace := ["math/bits.Add64", "math/bits.Sub64"], unfollowed := true, recurses := true, named := ["math/bits.divideError", "math/bits.overflowError"], apart := false, narrowed := true }
def BareissExpandsUptoSaid : Prop := bareissExpandsUptoRow.holds Try.pinned (OpenSpec.upto bareissExpandsSpec)

/-- 'trellislaw13.BareissProducts', WHERE WHAT IT READS IS OF BULK AT MOST 1048576: true; the input reads as it did. -/
def bareissProductsUptoRow : OpenClaim := { program := "ytncldpadakckjaa", sum := "912d48a7c5f08015c8ae2e04a917e0fead2408d633f6975d4710bf3d7f141740", func := "trellis/trellislaw13.BareissProducts", spec := "bareissProducts", inPlace := ["math/bits.Add64", "math/bits.Sub64"], unfollowed := true, recurses := true, named := ["math/bits.divideError", "math/bits.overflowError"], apart := false, narrowed := true }
def BareissProductsUptoSaid : Prop := bareissProductsUptoRow.holds Try.pinned (OpenSpec.upto bareissProductsSpec)

/-- 'trellislaw14.MinorsCompound', WHERE WHAT IT READS IS OF BULK AT MOST 1048576: true; the input reads as it did. -/
def minorsCompoundUptoRow : OpenClaim := { program := "ytncldpadakckjaa", sum := "912d48a7c5f08015c8ae2e04a917e0fead2408d633f6975d4710bf3d7f141740", func := "trellis/trellislaw14.MinorsCompound", spec := "minorsCompound", inPlace := ["math/bits.Add64", "math/bits.Sub64"], unfollowed := true, recurses := true, named := ["math/bits.divideError", "math/bits.overflowError"], apart := false, narrowed := true }
def MinorsCompoundUptoSaid : Prop := minorsCompoundUptoRow.holds Try.pinned (OpenSpec.upto minorsCompoundSpec)

/-- 'trellislaw14.MinorsExpand', WHERE WHAT IT READS IS OF BULK AT MOST 1048576: true; the input reads as it did. -/
def minorsExpandUptoRow : OpenClaim := { program := "ytncldpadakckjaa", sum := "912d48a7c5f08015c8ae2e04a917e0fead2408d633f6975d4710bf3d7f141740", func := "trellis/trellislaw14.MinorsExpand", spec := "minorsExpand", inPlace := ["math/bits.Add64", "math/bits.Sub64"], unfollowed := true, recurses := true, named := ["math/bits.divideError", "math/bits.overflowError"], apart := false, narrowed := true }
def MinorsExpandUptoSaid : Prop := minorsExpandUptoRow.holds Try.pinned (OpenSpec.upto minorsExpandSpec)

end Rows
end Go.Proofs.Ytncldpadakckjaa
