/-
  No cell of these rows narrows 'for every input' (looked for: loops, veiled, ifaces, maps, wideKeys, modest, calm, conditions, laid).
  DERIVED. THE GIVEN ROWS OF THIS SEAT. 4 by the template 'for every input the law returns true; each argument reads behind the call as it read before'; 0 by the template 'total and deterministic' (their statements: YtakbabkcidioaaaTotals.lean).
  GIVEN WITH THE SEED: the statements are not yours to turn. If you find one false, say at which input.
  Laid BY PROGRAM, IN A SANDBOX (cutbox-rows.mjs): the forced cells as the released guide's own fill.sh prints them over the translation ea969d3a885e88c3… (all of the seat's roots in one cut). By AI agents, Wed Nov 11 2026. No macro, syntax, notation, axiom, sorry.
-/
import Derived.Test.YtakbabkcidioaaaChecked
import GoSem.Claim
import GoSem.ClaimJoined
import GoSem.ClaimMapViews
import Derived.JoinedTies
import Derived.KernelRfl
namespace Go.Proofs.Ytakbabkcidioaaa
/- THE CELL 'sum', in the pinned program and in every row, IS THE sha256 OF THE DUMP (.gsa) THAT YtakbabkcidioaaaProg.lean LOADS. Nothing in Lean hashes anything: it is a label: what it is worth is what the hold of that sum in a sandbox is worth. -/
noncomputable def Try.pinned : Pinned := { name := "ytakbabkcidioaaa", sum := "ea969d3a885e88c32e36a68c3c88191803c493ba1c34f9f1abc1bceb51c631e3", checked := Try.checked }
namespace Rows
def none {H : Type} : Left H := { results := [], args := [] }

/-- 'stemkeep4.SecondaryOrderIndependent': WHATEVER THE INPUT: true; the input reads as it did. -/
def secondaryOrderIndependentSpec : ChangeSpec := { name := "secondaryOrderIndependent", fn := fun _ => fun
  | [d] => { results := [.lit (.bool true)], args := [d] }
  | _ => none }
def secondaryOrderIndependentRow : OpenClaim := { program := "ytakbabkcidioaaa", sum := "ea969d3a885e88c32e36a68c3c88191803c493ba1c34f9f1abc1bceb51c631e3", func := "stemma/stemkeep4.SecondaryOrderIndependent", spec := "secondaryOrderIndependent", inPlace := ["internal/bytealg.abigen_runtime_cmpstring", "slices.overlaps[stemma/secondary.Entry]", "slices.overlaps[stemma/api.Row]"], unfollowed := true, recurses := true, apart := false }
def SecondaryOrderIndependentSaid : Prop := secondaryOrderIndependentRow.holds Try.pinned (OpenSpec.ofChange secondaryOrderIndependentSpec)

/-- ITS FALSE NEIGHBOUR: 'it returns false'. Refute it at one input. -/
def secondaryOrderIndependentWrong : ChangeSpec := { name := "secondaryOrderIndependent", fn := fun _ => fun
  | [d] => { results := [.lit (.bool false)], args := [d] }
  | _ => none }
def SecondaryOrderIndependentWrongFalsely : Prop := secondaryOrderIndependentRow.holds Try.pinned (OpenSpec.ofChange secondaryOrderIndependentWrong)

/-- 'stemkeep4.SecondaryLookupEqualsScan': WHATEVER THE INPUT: true; the input reads as it did. -/
def secondaryLookupEqualsScanSpec : ChangeSpec := { name := "secondaryLookupEqualsScan", fn := fun _ => fun
  | [d1, d2] => { results := [.lit (.bool true)], args := [d1, d2] }
  | _ => none }
def secondaryLookupEqualsScanRow : OpenClaim := { program := "ytakbabkcidioaaa", sum := "ea969d3a885e88c32e36a68c3c88191803c493ba1c34f9f1abc1bceb51c631e3", func := "stemma/stemkeep4.SecondaryLookupEqualsScan", spec := "secondaryLookupEqualsScan", inPlace := ["internal/bytealg.abigen_runtime_cmpstring", "slices.overlaps[stemma/secondary.Entry]", "slices.overlaps[stemma/api.Row]"], unfollowed := true, recurses := true, apart := false }
def SecondaryLookupEqualsScanSaid : Prop := secondaryLookupEqualsScanRow.holds Try.pinned (OpenSpec.ofChange secondaryLookupEqualsScanSpec)

/-- ITS FALSE NEIGHBOUR: 'it returns false'. Refute it at one input. -/
def secondaryLookupEqualsScanWrong : ChangeSpec := { name := "secondaryLookupEqualsScan", fn := fun _ => fun
  | [d1, d2] => { results := [.lit (.bool false)], args := [d1, d2] }
  | _ => none }
def SecondaryLookupEqualsScanWrongFalsely : Prop := secondaryLookupEqualsScanRow.holds Try.pinned (OpenSpec.ofChange secondaryLookupEqualsScanWrong)

/-- 'stemkeep4.SecondaryRangeSplits': WHATEVER THE INPUT: true; the input reads as it did. -/
def secondaryRangeSplitsSpec : ChangeSpec := { name := "secondaryRangeSplits", fn := fun _ => fun
  | [d1, d2] => { results := [.lit (.bool true)], args := [d1, d2] }
  | _ => none }
def secondaryRangeSplitsRow : OpenClaim := { program := "ytakbabkcidioaaa", sum := "ea969d3a885e88c32e36a68c3c88191803c493ba1c34f9f1abc1bceb51c631e3", func := "stemma/stemkeep4.SecondaryRangeSplits", spec := "secondaryRangeSplits", inPlace := ["internal/bytealg.abigen_runtime_cmpstring", "slices.overlaps[stemma/secondary.Entry]", "slices.overlaps[stemma/api.Row]"], unfollowed := true, recurses := true, apart := false }
def SecondaryRangeSplitsSaid : Prop := secondaryRangeSplitsRow.holds Try.pinned (OpenSpec.ofChange secondaryRangeSplitsSpec)

/-- ITS FALSE NEIGHBOUR: 'it returns false'. Refute it at one input. -/
def secondaryRangeSplitsWrong : ChangeSpec := { name := "secondaryRangeSplits", fn := fun _ => fun
  | [d1, d2] => { results := [.lit (.bool false)], args := [d1, d2] }
  | _ => none }
def SecondaryRangeSplitsWrongFalsely : Prop := secondaryRangeSplitsRow.holds Try.pinned (OpenSpec.ofChange secondaryRangeSplitsWrong)

/-- 'stemkeep4.SecondaryDeleteInvertsInsert': WHATEVER THE INPUT: true; the input reads as it did. -/
def secondaryDeleteInvertsInsertSpec : ChangeSpec := { name := "secondaryDeleteInvertsInsert", fn := fun _ => fun
  | [d1, d2] => { results := [.lit (.bool true)], args := [d1, d2] }
  | _ => none }
def secondaryDeleteInvertsInsertRow : OpenClaim := { program := "ytakbabkcidioaaa", sum := "ea969d3a885e88c32e36a68c3c88191803c493ba1c34f9f1abc1bceb51c631e3", func := "stemma/stemkeep4.SecondaryDeleteInvertsInsert", spec := "secondaryDeleteInvertsInsert", inPlace := ["internal/bytealg.abigen_runtime_cmpstring", "slices.overlaps[stemma/secondary.Entry]", "slices.overlaps[stemma/api.Row]"], unfollowed := true, recurses := true, apart := false }
def SecondaryDeleteInvertsInsertSaid : Prop := secondaryDeleteInvertsInsertRow.holds Try.pinned (OpenSpec.ofChange secondaryDeleteInvertsInsertSpec)

/-- ITS FALSE NEIGHBOUR: 'it returns false'. Refute it at one input. -/
def secondaryDeleteInvertsInsertWrong : ChangeSpec := { name := "secondaryDeleteInvertsInsert", fn := fun _ => fun
  | [d1, d2] => { results := [.lit (.bool false)], args := [d1, d2] }
  | _ => none }
def SecondaryDeleteInvertsInsertWrongFalsely : Prop := secondaryDeleteInvertsInsertRow.holds Try.pinned (OpenSpec.ofChange secondaryDeleteInvertsInsertWrong)

/- THE SECOND FORM. 'bulk': how many values and letters a reading holds, each counted each time it is reached (what is shared counts as often as it is met; a slice's spare places count too). A statement '..UptoSaid' is the law's where the arguments, and the package variables that the reading takes, are together of bulk at most 1048576: NARROWER than '..Said'. Prove '..Said' where nothing that the law and all that it calls make is longer than what came in: it says more and counts as full. Else prove '..UptoSaid'. A law counts once. -/
mutual
def uptoBulk {H : Type} : DataW H → Nat
  | .lit (.string bytes) => bytes.length + 1
  | .lit _ => 1
  | .nil => 1
  | .ptr d => uptoBulk d + 1
  | .slice elems spare => uptoBulkAll elems + uptoBulkAll spare + 1
  | .agg parts => uptoBulkAll parts + 1
  | .iface _ d => uptoBulk d + 1
  | .map entries => uptoBulkEntries entries + 1
  | .held _ => 1
def uptoBulkAll {H : Type} : List (DataW H) → Nat
  | [] => 0
  | d :: r => uptoBulk d + uptoBulkAll r
def uptoBulkEntries {H : Type} : List (Lit × DataW H) → Nat
  | [] => 0
  | x :: r => uptoBulkEntry x + uptoBulkEntries r
def uptoBulkEntry {H : Type} : Lit × DataW H → Nat
  | (.string bytes, d) => bytes.length + uptoBulk d + 1
  | (_, d) => uptoBulk d + 1
 end
def uptoSmall : (H : Type) → List (DataW H) → Bool := fun _ ds => decide (uptoBulkAll ds ≤ 1048576)
def OpenSpec.upto (s : _root_.Go.ChangeSpec) : _root_.Go.OpenSpec := { _root_.Go.OpenSpec.ofChange s with cond := some uptoSmall }

/-- 'stemkeep4.SecondaryOrderIndependent', WHERE WHAT IT READS IS OF BULK AT MOST 1048576: true; the input reads as it did. -/
def secondaryOrderIndependentUptoRow : OpenClaim := { program := "ytakbabkcidioaaa", sum := "ea969d3a885e88c32e36a68c3c88191803c493ba1c34f9f1abc1bceb51c631e3", func := "stemma/stemkeep4.SecondaryOrderIndependent", spec := "secondaryOrderIndependent", inPlace := ["internal/bytealg.abigen_runtime_cmpstring", "slices.overlaps[stemma/secondary.Entry]", "slices.overlaps[stemma/api.Row]"], unfollowed := true, recurses := true, apart := false, narrowed := true }
def SecondaryOrderIndependentUptoSaid : Prop := secondaryOrderIndependentUptoRow.holds Try.pinned (OpenSpec.upto secondaryOrderIndependentSpec)

/-- 'stemkeep4.SecondaryLookupEqualsScan', WHERE WHAT IT READS IS OF BULK AT MOST 1048576: true; the input reads as it did. -/
def secondaryLookupEqualsScanUptoRow : OpenClaim := { program := "ytakbabkcidioaaa", sum := "ea969d3a885e88c32e36a68c3c88191803c493ba1c34f9f1abc1bceb51c631e3", func := "stemma/stemkeep4.SecondaryLookupEqualsScan", spec := "secondaryLookupEqualsScan", inPlace := ["internal/bytealg.abigen_runtime_cmpstring", "slices.overlaps[stemma/secondary.Entry]", "slices.overlaps[stemma/api.Row]"], unfollowed := true, recurses := true, apart := false, narrowed := true }
def SecondaryLookupEqualsScanUptoSaid : Prop := secondaryLookupEqualsScanUptoRow.holds Try.pinned (OpenSpec.upto secondaryLookupEqualsScanSpec)

/-- 'stemkeep4.SecondaryRangeSplits', WHERE WHAT IT READS IS OF BULK AT MOST 1048576: true; the input reads as it did. -/
def secondaryRangeSplitsUptoRow : OpenClaim := { program := "ytakbabkcidioaaa", sum := "ea969d3a885e88c32e36a68c3c88191803c493ba1c34f9f1abc1bceb51c631e3", func := "stemma/stemkeep4.SecondaryRangeSplits", spec := "secondaryRangeSplits", inPlace := ["internal/bytealg.abigen_runtime_cmpstring", "slices.overlaps[stemma/secondary.Entry]", "slices.overlaps[stemma/api.Row]"], unfollowed := true, recurses := true, apart := false, narrowed := true }
def SecondaryRangeSplitsUptoSaid : Prop := secondaryRangeSplitsUptoRow.holds Try.pinned (OpenSpec.upto secondaryRangeSplitsSpec)

/-- 'stemkeep4.SecondaryDeleteInvertsInsert', WHERE WHAT IT READS IS OF BULK AT MOST 1048576: true; the input reads as it did. -/
def secondaryDeleteInvertsInsertUptoRow : OpenClaim := { program := "ytakbabkcidioaaa", sum := "ea969d3a885e88c32e36a68c3c88191803c493ba1c34f9f1abc1bceb51c631e3", func := "stemma/stemkeep4.SecondaryDeleteInvertsInsert", spec := "secondaryDeleteInvertsInsert", inPlace := ["internal/bytealg.abigen_runtime_cmpstring", "slices.overlaps[stemma/secondary.Entry]", "slices.overlaps[stemma/api.Row]"], unfollowed := true, recurses := true, apart := false, narrowed := true }
def SecondaryDeleteInvertsInsertUptoSaid : Prop := secondaryDeleteInvertsInsertUptoRow.holds Try.pinned (OpenSpec.upto secondaryDeleteInvertsInsertSpec)

end Rows
end Go.Proofs.Ytakbabkcidioaaa
