/-
  No cell of these rows narrows 'for every input' (looked for: loops, veiled, ifaces, maps, wideKeys, modest, calm, conditions, laid).
  DERIVED. THE GIVEN ROWS OF THIS SEAT. 6 by the template 'for every input the law returns true; each argument reads behind the call as it read before'; 0 by the template 'total and deterministic' (their statements: YtjgghbmlbheknaaTotals.lean).
  GIVEN WITH THE SEED: the statements are not yours to turn. If you find one false, say at which input.
  Laid BY PROGRAM, IN A SANDBOX (cutbox-rows.mjs): the forced cells as the released guide's own fill.sh prints them over the translation 40910bd845174363… (all of the seat's roots in one cut). By AI agents, Wed Nov 11 2026. No macro, syntax, notation, axiom, sorry.
-/
import Derived.Test.YtjgghbmlbheknaaChecked
import GoSem.Claim
import GoSem.ClaimJoined
import GoSem.ClaimMapViews
import Derived.JoinedTies
import Derived.KernelRfl
namespace Go.Proofs.Ytjgghbmlbheknaa
/- THE CELL 'sum', in the pinned program and in every row, IS THE sha256 OF THE DUMP (.gsa) THAT YtjgghbmlbheknaaProg.lean LOADS. Nothing in Lean hashes anything: it is a label: what it is worth is what the hold of that sum in a sandbox is worth. -/
noncomputable def Try.pinned : Pinned := { name := "ytjgghbmlbheknaa", sum := "40910bd845174363f94daba3d5166b89a03932ea72c19f9cde41906336d6aa9a", checked := Try.checked }
namespace Rows
def none {H : Type} : Left H := { results := [], args := [] }

/-- 'stemkeep4.EncodingRowInjective': WHATEVER THE INPUT: true; the input reads as it did. -/
def encodingRowInjectiveSpec : ChangeSpec := { name := "encodingRowInjective", fn := fun _ => fun
  | [d1, d2] => { results := [.lit (.bool true)], args := [d1, d2] }
  | _ => none }
def encodingRowInjectiveRow : OpenClaim := { program := "ytjgghbmlbheknaa", sum := "40910bd845174363f94daba3d5166b89a03932ea72c19f9cde41906336d6aa9a", func := "stemma/stemkeep4.EncodingRowInjective", spec := "encodingRowInjective", apart := false }
def EncodingRowInjectiveSaid : Prop := encodingRowInjectiveRow.holds Try.pinned (OpenSpec.ofChange encodingRowInjectiveSpec)

/-- ITS FALSE NEIGHBOUR: 'it returns false'. Refute it at one input. -/
def encodingRowInjectiveWrong : ChangeSpec := { name := "encodingRowInjective", fn := fun _ => fun
  | [d1, d2] => { results := [.lit (.bool false)], args := [d1, d2] }
  | _ => none }
def EncodingRowInjectiveWrongFalsely : Prop := encodingRowInjectiveRow.holds Try.pinned (OpenSpec.ofChange encodingRowInjectiveWrong)

/-- 'stemkeep4.EncodingRowRoundTrip': WHATEVER THE INPUT: true; the input reads as it did. -/
def encodingRowRoundTripSpec : ChangeSpec := { name := "encodingRowRoundTrip", fn := fun _ => fun
  | [d] => { results := [.lit (.bool true)], args := [d] }
  | _ => none }
def encodingRowRoundTripRow : OpenClaim := { program := "ytjgghbmlbheknaa", sum := "40910bd845174363f94daba3d5166b89a03932ea72c19f9cde41906336d6aa9a", func := "stemma/stemkeep4.EncodingRowRoundTrip", spec := "encodingRowRoundTrip", apart := false }
def EncodingRowRoundTripSaid : Prop := encodingRowRoundTripRow.holds Try.pinned (OpenSpec.ofChange encodingRowRoundTripSpec)

/-- ITS FALSE NEIGHBOUR: 'it returns false'. Refute it at one input. -/
def encodingRowRoundTripWrong : ChangeSpec := { name := "encodingRowRoundTrip", fn := fun _ => fun
  | [d] => { results := [.lit (.bool false)], args := [d] }
  | _ => none }
def EncodingRowRoundTripWrongFalsely : Prop := encodingRowRoundTripRow.holds Try.pinned (OpenSpec.ofChange encodingRowRoundTripWrong)

/-- 'stemkeep4.EncodingIsPrefixFree': WHATEVER THE INPUT: true; the input reads as it did. -/
def encodingIsPrefixFreeSpec : ChangeSpec := { name := "encodingIsPrefixFree", fn := fun _ => fun
  | [d1, d2, d3] => { results := [.lit (.bool true)], args := [d1, d2, d3] }
  | _ => none }
def encodingIsPrefixFreeRow : OpenClaim := { program := "ytjgghbmlbheknaa", sum := "40910bd845174363f94daba3d5166b89a03932ea72c19f9cde41906336d6aa9a", func := "stemma/stemkeep4.EncodingIsPrefixFree", spec := "encodingIsPrefixFree", apart := false }
def EncodingIsPrefixFreeSaid : Prop := encodingIsPrefixFreeRow.holds Try.pinned (OpenSpec.ofChange encodingIsPrefixFreeSpec)

/-- ITS FALSE NEIGHBOUR: 'it returns false'. Refute it at one input. -/
def encodingIsPrefixFreeWrong : ChangeSpec := { name := "encodingIsPrefixFree", fn := fun _ => fun
  | [d1, d2, d3] => { results := [.lit (.bool false)], args := [d1, d2, d3] }
  | _ => none }
def EncodingIsPrefixFreeWrongFalsely : Prop := encodingIsPrefixFreeRow.holds Try.pinned (OpenSpec.ofChange encodingIsPrefixFreeWrong)

/-- 'stemkeep4.EncodingDecodeIsCanonical': WHATEVER THE INPUT: true; the input reads as it did. -/
def encodingDecodeIsCanonicalSpec : ChangeSpec := { name := "encodingDecodeIsCanonical", fn := fun _ => fun
  | [d] => { results := [.lit (.bool true)], args := [d] }
  | _ => none }
def encodingDecodeIsCanonicalRow : OpenClaim := { program := "ytjgghbmlbheknaa", sum := "40910bd845174363f94daba3d5166b89a03932ea72c19f9cde41906336d6aa9a", func := "stemma/stemkeep4.EncodingDecodeIsCanonical", spec := "encodingDecodeIsCanonical", apart := false }
def EncodingDecodeIsCanonicalSaid : Prop := encodingDecodeIsCanonicalRow.holds Try.pinned (OpenSpec.ofChange encodingDecodeIsCanonicalSpec)

/-- ITS FALSE NEIGHBOUR: 'it returns false'. Refute it at one input. -/
def encodingDecodeIsCanonicalWrong : ChangeSpec := { name := "encodingDecodeIsCanonical", fn := fun _ => fun
  | [d] => { results := [.lit (.bool false)], args := [d] }
  | _ => none }
def EncodingDecodeIsCanonicalWrongFalsely : Prop := encodingDecodeIsCanonicalRow.holds Try.pinned (OpenSpec.ofChange encodingDecodeIsCanonicalWrong)

/-- 'stemkeep4.EncodingInstanceRoundTrip': WHATEVER THE INPUT: true; the input reads as it did. -/
def encodingInstanceRoundTripSpec : ChangeSpec := { name := "encodingInstanceRoundTrip", fn := fun _ => fun
  | [d] => { results := [.lit (.bool true)], args := [d] }
  | _ => none }
def encodingInstanceRoundTripRow : OpenClaim := { program := "ytjgghbmlbheknaa", sum := "40910bd845174363f94daba3d5166b89a03932ea72c19f9cde41906336d6aa9a", func := "stemma/stemkeep4.EncodingInstanceRoundTrip", spec := "encodingInstanceRoundTrip", apart := false }
def EncodingInstanceRoundTripSaid : Prop := encodingInstanceRoundTripRow.holds Try.pinned (OpenSpec.ofChange encodingInstanceRoundTripSpec)

/-- ITS FALSE NEIGHBOUR: 'it returns false'. Refute it at one input. -/
def encodingInstanceRoundTripWrong : ChangeSpec := { name := "encodingInstanceRoundTrip", fn := fun _ => fun
  | [d] => { results := [.lit (.bool false)], args := [d] }
  | _ => none }
def EncodingInstanceRoundTripWrongFalsely : Prop := encodingInstanceRoundTripRow.holds Try.pinned (OpenSpec.ofChange encodingInstanceRoundTripWrong)

/-- 'stemkeep4.EncodingChangesRoundTrip': WHATEVER THE INPUT: true; the input reads as it did. -/
def encodingChangesRoundTripSpec : ChangeSpec := { name := "encodingChangesRoundTrip", fn := fun _ => fun
  | [d] => { results := [.lit (.bool true)], args := [d] }
  | _ => none }
def encodingChangesRoundTripRow : OpenClaim := { program := "ytjgghbmlbheknaa", sum := "40910bd845174363f94daba3d5166b89a03932ea72c19f9cde41906336d6aa9a", func := "stemma/stemkeep4.EncodingChangesRoundTrip", spec := "encodingChangesRoundTrip", apart := false }
def EncodingChangesRoundTripSaid : Prop := encodingChangesRoundTripRow.holds Try.pinned (OpenSpec.ofChange encodingChangesRoundTripSpec)

/-- ITS FALSE NEIGHBOUR: 'it returns false'. Refute it at one input. -/
def encodingChangesRoundTripWrong : ChangeSpec := { name := "encodingChangesRoundTrip", fn := fun _ => fun
  | [d] => { results := [.lit (.bool false)], args := [d] }
  | _ => none }
def EncodingChangesRoundTripWrongFalsely : Prop := encodingChangesRoundTripRow.holds Try.pinned (OpenSpec.ofChange encodingChangesRoundTripWrong)

/- THE SECOND FORM. 'bulk': how many values and letters a reading holds, each counted each time it is reached (what is shared counts as often as it is met; a slice's spare places count too). A statement '..UptoSaid' is the law's where the arguments, and the package variables that the reading takes, are together of bulk at most 1048576: NARROWER than '..Said'. Prove '..Said' where nothing that the law and all that it calls make is longer than what came in: it says more and counts as full. Else prove '..UptoSaid'. A law counts once. -/
mutual
def uptoBulk {H : Type} : DataW H → Nat
  | .lit (.string bytes) => bytes.length + 1
  | .lit _ => 1
  | .nil => 1
  | .ptr d => uptoBulk d + 1
  | .slice elems spare => uptoBulkAll elems + uptoBulkAll spare + 1
  | .agg parts => uptoBulkAll parts + 1
  | .iface _ d => uptoBulk d + 1
  | .map entries => uptoBulkEntries entries + 1
  | .held _ => 1
def uptoBulkAll {H : Type} : List (DataW H) → Nat
  | [] => 0
  | d :: r => uptoBulk d + uptoBulkAll r
def uptoBulkEntries {H : Type} : List (Lit × DataW H) → Nat
  | [] => 0
  | x :: r => uptoBulkEntry x + uptoBulkEntries r
def uptoBulkEntry {H : Type} : Lit × DataW H → Nat
  | (.string bytes, d) => bytes.length + uptoBulk d + 1
  | (_, d) => uptoBulk d + 1
 end
def uptoSmall : (H : Type) → List (DataW H) → Bool := fun _ ds => decide (uptoBulkAll ds ≤ 1048576)
def OpenSpec.upto (s : _root_.Go.ChangeSpec) : _root_.Go.OpenSpec := { _root_.Go.OpenSpec.ofChange s with cond := some uptoSmall }

/-- 'stemkeep4.EncodingRowInjective', WHERE WHAT IT READS IS OF BULK AT MOST 1048576: true; the input reads as it did. -/
def encodingRowInjectiveUptoRow : OpenClaim := { program := "ytjgghbmlbheknaa", sum := "40910bd845174363f94daba3d5166b89a03932ea72c19f9cde41906336d6aa9a", func := "stemma/stemkeep4.EncodingRowInjective", spec := "encodingRowInjective", apart := false, narrowed := true }
def EncodingRowInjectiveUptoSaid : Prop := encodingRowInjectiveUptoRow.holds Try.pinned (OpenSpec.upto encodingRowInjectiveSpec)

/-- 'stemkeep4.EncodingRowRoundTrip', WHERE WHAT IT READS IS OF BULK AT MOST 1048576: true; the input reads as it did. -/
def encodingRowRoundTripUptoRow : OpenClaim := { program := "ytjgghbmlbheknaa", sum := "40910bd845174363f94daba3d5166b89a03932ea72c19f9cde41906336d6aa9a", func := "stemma/stemkeep4.EncodingRowRoundTrip", spec := "encodingRowRoundTrip", apart := false, narrowed := true }
def EncodingRowRoundTripUptoSaid : Prop := encodingRowRoundTripUptoRow.holds Try.pinned (OpenSpec.upto encodingRowRoundTripSpec)

/-- 'stemkeep4.EncodingIsPrefixFree', WHERE WHAT IT READS IS OF BULK AT MOST 1048576: true; the input reads as it did. -/
def encodingIsPrefixFreeUptoRow : OpenClaim := { program := "ytjgghbmlbheknaa", sum := "40910bd845174363f94daba3d5166b89a03932ea72c19f9cde41906336d6aa9a", func := "stemma/stemkeep4.EncodingIsPrefixFree", spec := "encodingIsPrefixFree", apart := false, narrowed := true }
def EncodingIsPrefixFreeUptoSaid : Prop := encodingIsPrefixFreeUptoRow.holds Try.pinned (OpenSpec.upto encodingIsPrefixFreeSpec)

/-- 'stemkeep4.EncodingDecodeIsCanonical', WHERE WHAT IT READS IS OF BULK AT MOST 1048576: true; the input reads as it did. -/
def encodingDecodeIsCanonicalUptoRow : OpenClaim := { program := "ytjgghbmlbheknaa", sum := "40910bd845174363f94daba3d5166b89a03932ea72c19f9cde41906336d6aa9a", func := "stemma/stemkeep4.EncodingDecodeIsCanonical", spec := "encodingDecodeIsCanonical", apart := false, narrowed := true }
def EncodingDecodeIsCanonicalUptoSaid : Prop := encodingDecodeIsCanonicalUptoRow.holds Try.pinned (OpenSpec.upto encodingDecodeIsCanonicalSpec)

/-- 'stemkeep4.EncodingInstanceRoundTrip', WHERE WHAT IT READS IS OF BULK AT MOST 1048576: true; the input reads as it did. -/
def encodingInstanceRoundTripUptoRow : OpenClaim := { program := "ytjgghbmlbheknaa", sum := "40910bd845174363f94daba3d5166b89a03932ea72c19f9cde41906336d6aa9a", func := "stemma/stemkeep4.EncodingInstanceRoundTrip", spec := "encodingInstanceRoundTrip", apart := false, narrowed := true }
def EncodingInstanceRoundTripUptoSaid : Prop := encodingInstanceRoundTripUptoRow.holds Try.pinned (OpenSpec.upto encodingInstanceRoundTripSpec)

/-- 'stemkeep4.EncodingChangesRoundTrip', WHERE WHAT IT READS IS OF BULK AT MOST 1048576: true; the input reads as it did. -/
def encodingChangesRoundTripUptoRow : OpenClaim := { program := "ytjgghbmlbheknaa", sum := "40910bd845174363f94daba3d5166b89a03932ea72c19f9cde41906336d6aa9a", func := "stemma/stemkeep4.EncodingChangesRoundTrip", spec := "encodingChangesRoundTrip", apart := false, narrowed := true }
def EncodingChangesRoundTripUptoSaid : Prop := encodingChangesRoundTripUptoRow.holds Try.pinned (OpenSpec.upto encodingChangesRoundTripSpec)

end Rows
end Go.Proofs.Ytjgghbmlbheknaa
