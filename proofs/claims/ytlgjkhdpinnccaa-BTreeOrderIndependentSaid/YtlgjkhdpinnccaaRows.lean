/-
  No cell of these rows narrows 'for every input' (looked for: loops, veiled, ifaces, maps, wideKeys, modest, calm, conditions, laid).
  DERIVED. THE GIVEN ROWS OF THIS SEAT. 6 by the template 'for every input the law returns true; each argument reads behind the call as it read before'; 0 by the template 'total and deterministic' (their statements: YtlgjkhdpinnccaaTotals.lean).
  GIVEN WITH THE SEED: the statements are not yours to turn. If you find one false, say at which input.
  Laid BY PROGRAM, IN A SANDBOX (cutbox-rows.mjs): the forced cells as the released guide's own fill.sh prints them over the translation b4809254f598f728… (all of the seat's roots in one cut). By AI agents, Wed Nov 11 2026. No macro, syntax, notation, axiom, sorry.
-/
import Derived.Test.YtlgjkhdpinnccaaChecked
import GoSem.Claim
import GoSem.ClaimJoined
import GoSem.ClaimMapViews
import Derived.JoinedTies
import Derived.KernelRfl
namespace Go.Proofs.Ytlgjkhdpinnccaa
/- THE CELL 'sum', in the pinned program and in every row, IS THE sha256 OF THE DUMP (.gsa) THAT YtlgjkhdpinnccaaProg.lean LOADS. Nothing in Lean hashes anything: it is a label: what it is worth is what the hold of that sum in a sandbox is worth. -/
noncomputable def Try.pinned : Pinned := { name := "ytlgjkhdpinnccaa", sum := "b4809254f598f728300e26eab1b9ad4aa50e3d6f3efadb04c8f6d8b9329993b9", checked := Try.checked }
namespace Rows
def none {H : Type} : Left H := { results := [], args := [] }

/-- 'stemkeep4.BTreeGetAfterPut': WHATEVER THE INPUT: true; the input reads as it did. -/
def bTreeGetAfterPutSpec : ChangeSpec := { name := "bTreeGetAfterPut", fn := fun _ => fun
  | [d1, d2, d3] => { results := [.lit (.bool true)], args := [d1, d2, d3] }
  | _ => none }
def bTreeGetAfterPutRow : OpenClaim := { program := "ytlgjkhdpinnccaa", sum := "b4809254f598f728300e26eab1b9ad4aa50e3d6f3efadb04c8f6d8b9329993b9", func := "stemma/stemkeep4.BTreeGetAfterPut", spec := "bTreeGetAfterPut", inPlace := ["internal/bytealg.abigen_runtime_cmpstring", "slices.overlaps[stemma/btree.Entry]", "slices.overlaps[*stemma/btree.node]", "slices.overlaps[stemma/api.Row]"], unfollowed := true, recurses := true, apart := false }
def BTreeGetAfterPutSaid : Prop := bTreeGetAfterPutRow.holds Try.pinned (OpenSpec.ofChange bTreeGetAfterPutSpec)

/-- ITS FALSE NEIGHBOUR: 'it returns false'. Refute it at one input. -/
def bTreeGetAfterPutWrong : ChangeSpec := { name := "bTreeGetAfterPut", fn := fun _ => fun
  | [d1, d2, d3] => { results := [.lit (.bool false)], args := [d1, d2, d3] }
  | _ => none }
def BTreeGetAfterPutWrongFalsely : Prop := bTreeGetAfterPutRow.holds Try.pinned (OpenSpec.ofChange bTreeGetAfterPutWrong)

/-- 'stemkeep4.BTreeIsShallow': WHATEVER THE INPUT: true; the input reads as it did. -/
def bTreeIsShallowSpec : ChangeSpec := { name := "bTreeIsShallow", fn := fun _ => fun
  | [d1, d2] => { results := [.lit (.bool true)], args := [d1, d2] }
  | _ => none }
def bTreeIsShallowRow : OpenClaim := { program := "ytlgjkhdpinnccaa", sum := "b4809254f598f728300e26eab1b9ad4aa50e3d6f3efadb04c8f6d8b9329993b9", func := "stemma/stemkeep4.BTreeIsShallow", spec := "bTreeIsShallow", inPlace := ["internal/bytealg.abigen_runtime_cmpstring", "slices.overlaps[stemma/btree.Entry]", "slices.overlaps[*stemma/btree.node]", "slices.overlaps[stemma/api.Row]"], unfollowed := true, recurses := true, apart := false }
def BTreeIsShallowSaid : Prop := bTreeIsShallowRow.holds Try.pinned (OpenSpec.ofChange bTreeIsShallowSpec)

/-- ITS FALSE NEIGHBOUR: 'it returns false'. Refute it at one input. -/
def bTreeIsShallowWrong : ChangeSpec := { name := "bTreeIsShallow", fn := fun _ => fun
  | [d1, d2] => { results := [.lit (.bool false)], args := [d1, d2] }
  | _ => none }
def BTreeIsShallowWrongFalsely : Prop := bTreeIsShallowRow.holds Try.pinned (OpenSpec.ofChange bTreeIsShallowWrong)

/-- 'stemkeep4.BTreeOrderIndependent': WHATEVER THE INPUT: true; the input reads as it did. -/
def bTreeOrderIndependentSpec : ChangeSpec := { name := "bTreeOrderIndependent", fn := fun _ => fun
  | [d1, d2, d3] => { results := [.lit (.bool true)], args := [d1, d2, d3] }
  | _ => none }
def bTreeOrderIndependentRow : OpenClaim := { program := "ytlgjkhdpinnccaa", sum := "b4809254f598f728300e26eab1b9ad4aa50e3d6f3efadb04c8f6d8b9329993b9", func := "stemma/stemkeep4.BTreeOrderIndependent", spec := "bTreeOrderIndependent", inPlace := ["internal/bytealg.abigen_runtime_cmpstring", "slices.overlaps[stemma/btree.Entry]", "slices.overlaps[*stemma/btree.node]", "slices.overlaps[stemma/api.Row]"], unfollowed := true, recurses := true, apart := false }
def BTreeOrderIndependentSaid : Prop := bTreeOrderIndependentRow.holds Try.pinned (OpenSpec.ofChange bTreeOrderIndependentSpec)

/-- ITS FALSE NEIGHBOUR: 'it returns false'. Refute it at one input. -/
def bTreeOrderIndependentWrong : ChangeSpec := { name := "bTreeOrderIndependent", fn := fun _ => fun
  | [d1, d2, d3] => { results := [.lit (.bool false)], args := [d1, d2, d3] }
  | _ => none }
def BTreeOrderIndependentWrongFalsely : Prop := bTreeOrderIndependentRow.holds Try.pinned (OpenSpec.ofChange bTreeOrderIndependentWrong)

/-- 'stemkeep4.BTreeIterationIsSorted': WHATEVER THE INPUT: true; the input reads as it did. -/
def bTreeIterationIsSortedSpec : ChangeSpec := { name := "bTreeIterationIsSorted", fn := fun _ => fun
  | [d1, d2] => { results := [.lit (.bool true)], args := [d1, d2] }
  | _ => none }
def bTreeIterationIsSortedRow : OpenClaim := { program := "ytlgjkhdpinnccaa", sum := "b4809254f598f728300e26eab1b9ad4aa50e3d6f3efadb04c8f6d8b9329993b9", func := "stemma/stemkeep4.BTreeIterationIsSorted", spec := "bTreeIterationIsSorted", inPlace := ["internal/bytealg.abigen_runtime_cmpstring", "slices.overlaps[stemma/btree.Entry]", "slices.overlaps[*stemma/btree.node]", "slices.overlaps[stemma/api.Row]"], unfollowed := true, recurses := true, apart := false }
def BTreeIterationIsSortedSaid : Prop := bTreeIterationIsSortedRow.holds Try.pinned (OpenSpec.ofChange bTreeIterationIsSortedSpec)

/-- ITS FALSE NEIGHBOUR: 'it returns false'. Refute it at one input. -/
def bTreeIterationIsSortedWrong : ChangeSpec := { name := "bTreeIterationIsSorted", fn := fun _ => fun
  | [d1, d2] => { results := [.lit (.bool false)], args := [d1, d2] }
  | _ => none }
def BTreeIterationIsSortedWrongFalsely : Prop := bTreeIterationIsSortedRow.holds Try.pinned (OpenSpec.ofChange bTreeIterationIsSortedWrong)

/-- 'stemkeep4.BTreeRangeConcatenates': WHATEVER THE INPUT: true; the input reads as it did. -/
def bTreeRangeConcatenatesSpec : ChangeSpec := { name := "bTreeRangeConcatenates", fn := fun _ => fun
  | [d1, d2, d3] => { results := [.lit (.bool true)], args := [d1, d2, d3] }
  | _ => none }
def bTreeRangeConcatenatesRow : OpenClaim := { program := "ytlgjkhdpinnccaa", sum := "b4809254f598f728300e26eab1b9ad4aa50e3d6f3efadb04c8f6d8b9329993b9", func := "stemma/stemkeep4.BTreeRangeConcatenates", spec := "bTreeRangeConcatenates", inPlace := ["internal/bytealg.abigen_runtime_cmpstring", "slices.overlaps[stemma/btree.Entry]", "slices.overlaps[*stemma/btree.node]", "slices.overlaps[stemma/api.Row]"], unfollowed := true, recurses := true, apart := false }
def BTreeRangeConcatenatesSaid : Prop := bTreeRangeConcatenatesRow.holds Try.pinned (OpenSpec.ofChange bTreeRangeConcatenatesSpec)

/-- ITS FALSE NEIGHBOUR: 'it returns false'. Refute it at one input. -/
def bTreeRangeConcatenatesWrong : ChangeSpec := { name := "bTreeRangeConcatenates", fn := fun _ => fun
  | [d1, d2, d3] => { results := [.lit (.bool false)], args := [d1, d2, d3] }
  | _ => none }
def BTreeRangeConcatenatesWrongFalsely : Prop := bTreeRangeConcatenatesRow.holds Try.pinned (OpenSpec.ofChange bTreeRangeConcatenatesWrong)

/-- 'stemkeep4.BTreeDeleteInvertsPut': WHATEVER THE INPUT: true; the input reads as it did. -/
def bTreeDeleteInvertsPutSpec : ChangeSpec := { name := "bTreeDeleteInvertsPut", fn := fun _ => fun
  | [d1, d2, d3] => { results := [.lit (.bool true)], args := [d1, d2, d3] }
  | _ => none }
def bTreeDeleteInvertsPutRow : OpenClaim := { program := "ytlgjkhdpinnccaa", sum := "b4809254f598f728300e26eab1b9ad4aa50e3d6f3efadb04c8f6d8b9329993b9", func := "stemma/stemkeep4.BTreeDeleteInvertsPut", spec := "bTreeDeleteInvertsPut", inPlace := ["internal/bytealg.abigen_runtime_cmpstring", "slices.overlaps[stemma/btree.Entry]", "slices.overlaps[*stemma/btree.node]", "slices.overlaps[stemma/api.Row]"], unfollowed := true, recurses := true, apart := false }
def BTreeDeleteInvertsPutSaid : Prop := bTreeDeleteInvertsPutRow.holds Try.pinned (OpenSpec.ofChange bTreeDeleteInvertsPutSpec)

/-- ITS FALSE NEIGHBOUR: 'it returns false'. Refute it at one input. -/
def bTreeDeleteInvertsPutWrong : ChangeSpec := { name := "bTreeDeleteInvertsPut", fn := fun _ => fun
  | [d1, d2, d3] => { results := [.lit (.bool false)], args := [d1, d2, d3] }
  | _ => none }
def BTreeDeleteInvertsPutWrongFalsely : Prop := bTreeDeleteInvertsPutRow.holds Try.pinned (OpenSpec.ofChange bTreeDeleteInvertsPutWrong)

/- THE SECOND FORM. 'bulk': how many values and letters a reading holds, each counted each time it is reached (what is shared counts as often as it is met; a slice's spare places count too). A statement '..UptoSaid' is the law's where the arguments, and the package variables that the reading takes, are together of bulk at most 1048576: NARROWER than '..Said'. Prove '..Said' where nothing that the law and all that it calls make is longer than what came in: it says more and counts as full. Else prove '..UptoSaid'. A law counts once. -/
mutual
def uptoBulk {H : Type} : DataW H → Nat
  | .lit (.string bytes) => bytes.length + 1
  | .lit _ => 1
  | .nil => 1
  | .ptr d => uptoBulk d + 1
  | .slice elems spare => uptoBulkAll elems + uptoBulkAll spare + 1
  | .agg parts => uptoBulkAll parts + 1
  | .iface _ d => uptoBulk d + 1
  | .map entries => uptoBulkEntries entries + 1
  | .held _ => 1
def uptoBulkAll {H : Type} : List (DataW H) → Nat
  | [] => 0
  | d :: r => uptoBulk d + uptoBulkAll r
def uptoBulkEntries {H : Type} : List (Lit × DataW H) → Nat
  | [] => 0
  | x :: r => uptoBulkEntry x + uptoBulkEntries r
def uptoBulkEntry {H : Type} : Lit × DataW H → Nat
  | (.string bytes, d) => bytes.length + uptoBulk d + 1
  | (_, d) => uptoBulk d + 1
 end
def uptoSmall : (H : Type) → List (DataW H) → Bool := fun _ ds => decide (uptoBulkAll ds ≤ 1048576)
def OpenSpec.upto (s : _root_.Go.ChangeSpec) : _root_.Go.OpenSpec := { _root_.Go.OpenSpec.ofChange s with cond := some uptoSmall }

/-- 'stemkeep4.BTreeGetAfterPut', WHERE WHAT IT READS IS OF BULK AT MOST 1048576: true; the input reads as it did. -/
def bTreeGetAfterPutUptoRow : OpenClaim := { program := "ytlgjkhdpinnccaa", sum := "b4809254f598f728300e26eab1b9ad4aa50e3d6f3efadb04c8f6d8b9329993b9", func := "stemma/stemkeep4.BTreeGetAfterPut", spec := "bTreeGetAfterPut", inPlace := ["internal/bytealg.abigen_runtime_cmpstring", "slices.overlaps[stemma/btree.Entry]", "slices.overlaps[*stemma/btree.node]", "slices.overlaps[stemma/api.Row]"], unfollowed := true, recurses := true, apart := false, narrowed := true }
def BTreeGetAfterPutUptoSaid : Prop := bTreeGetAfterPutUptoRow.holds Try.pinned (OpenSpec.upto bTreeGetAfterPutSpec)

/-- 'stemkeep4.BTreeIsShallow', WHERE WHAT IT READS IS OF BULK AT MOST 1048576: true; the input reads as it did. -/
def bTreeIsShallowUptoRow : OpenClaim := { program := "ytlgjkhdpinnccaa", sum := "b4809254f598f728300e26eab1b9ad4aa50e3d6f3efadb04c8f6d8b9329993b9", func := "stemma/stemkeep4.BTreeIsShallow", spec := "bTreeIsShallow", inPlace := ["internal/bytealg.abigen_runtime_cmpstring", "slices.overlaps[stemma/btree.Entry]", "slices.overlaps[*stemma/btree.node]", "slices.overlaps[stemma/api.Row]"], unfollowed := true, recurses := true, apart := false, narrowed := true }
def BTreeIsShallowUptoSaid : Prop := bTreeIsShallowUptoRow.holds Try.pinned (OpenSpec.upto bTreeIsShallowSpec)

/-- 'stemkeep4.BTreeOrderIndependent', WHERE WHAT IT READS IS OF BULK AT MOST 1048576: true; the input reads as it did. -/
def bTreeOrderIndependentUptoRow : OpenClaim := { program := "ytlgjkhdpinnccaa", sum := "b4809254f598f728300e26eab1b9ad4aa50e3d6f3efadb04c8f6d8b9329993b9", func := "stemma/stemkeep4.BTreeOrderIndependent", spec := "bTreeOrderIndependent", inPlace := ["internal/bytealg.abigen_runtime_cmpstring", "slices.overlaps[stemma/btree.Entry]", "slices.overlaps[*stemma/btree.node]", "slices.overlaps[stemma/api.Row]"], unfollowed := true, recurses := true, apart := false, narrowed := true }
def BTreeOrderIndependentUptoSaid : Prop := bTreeOrderIndependentUptoRow.holds Try.pinned (OpenSpec.upto bTreeOrderIndependentSpec)

/-- 'stemkeep4.BTreeIterationIsSorted', WHERE WHAT IT READS IS OF BULK AT MOST 1048576: true; the input reads as it did. -/
def bTreeIterationIsSortedUptoRow : OpenClaim := { program := "ytlgjkhdpinnccaa", sum := "b4809254f598f728300e26eab1b9ad4aa50e3d6f3efadb04c8f6d8b9329993b9", func := "stemma/stemkeep4.BTreeIterationIsSorted", spec := "bTreeIterationIsSorted", inPlace := ["internal/bytealg.abigen_runtime_cmpstring", "slices.overlaps[stemma/btree.Entry]", "slices.overlaps[*stemma/btree.node]", "slices.overlaps[stemma/api.Row]"], unfollowed := true, recurses := true, apart := false, narrowed := true }
def BTreeIterationIsSortedUptoSaid : Prop := bTreeIterationIsSortedUptoRow.holds Try.pinned (OpenSpec.upto bTreeIterationIsSortedSpec)

/-- 'stemkeep4.BTreeRangeConcatenates', WHERE WHAT IT READS IS OF BULK AT MOST 1048576: true; the input reads as it did. -/
def bTreeRangeConcatenatesUptoRow : OpenClaim := { program := "ytlgjkhdpinnccaa", sum := "b4809254f598f728300e26eab1b9ad4aa50e3d6f3efadb04c8f6d8b9329993b9", func := "stemma/stemkeep4.BTreeRangeConcatenates", spec := "bTreeRangeConcatenates", inPlace := ["internal/bytealg.abigen_runtime_cmpstring", "slices.overlaps[stemma/btree.Entry]", "slices.overlaps[*stemma/btree.node]", "slices.overlaps[stemma/api.Row]"], unfollowed := true, recurses := true, apart := false, narrowed := true }
def BTreeRangeConcatenatesUptoSaid : Prop := bTreeRangeConcatenatesUptoRow.holds Try.pinned (OpenSpec.upto bTreeRangeConcatenatesSpec)

/-- 'stemkeep4.BTreeDeleteInvertsPut', WHERE WHAT IT READS IS OF BULK AT MOST 1048576: true; the input reads as it did. -/
def bTreeDeleteInvertsPutUptoRow : OpenClaim := { program := "ytlgjkhdpinnccaa", sum := "b4809254f598f728300e26eab1b9ad4aa50e3d6f3efadb04c8f6d8b9329993b9", func := "stemma/stemkeep4.BTreeDeleteInvertsPut", spec := "bTreeDeleteInvertsPut", inPlace := ["internal/bytealg.abigen_runtime_cmpstring", "slices.overlaps[stemma/btree.Entry]", "slices.overlaps[*stemma/btree.node]", "slices.overlaps[stemma/api.Row]"], unfollowed := true, recurses := true, apart := false, narrowed := true }
def BTreeDeleteInvertsPutUptoSaid : Prop := bTreeDeleteInvertsPutUptoRow.holds Try.pinned (OpenSpec.upto bTreeDeleteInvertsPutSpec)

end Rows
end Go.Proofs.Ytlgjkhdpinnccaa
