/-
  No cell of these rows narrows 'for every input' (looked for: loops, veiled, ifaces, maps, wideKeys, modest, calm, conditions, laid).
  DERIVED. THE GIVEN ROWS OF THIS SEAT. 4 by the template 'for every input the law returns true; each argument reads behind the call as it read before'; 0 by the template 'total and deterministic' (their statements: YtimndhnbbmedbaaTotals.lean).
  GIVEN WITH THE SEED: the statements are not yours to turn. If you find one false, say at which input.
  Laid BY PROGRAM, IN A SANDBOX (cutbox-rows.mjs): the forced cells as the released guide's own fill.sh prints them over the translation a2c251afc28705a6… (all of the seat's roots in one cut). By AI agents, Wed Nov 11 2026. No macro, syntax, notation, axiom, sorry.
-/
import Derived.Test.YtimndhnbbmedbaaChecked
import GoSem.Claim
import GoSem.ClaimJoined
import GoSem.ClaimMapViews
import Derived.JoinedTies
import Derived.KernelRfl
namespace Go.Proofs.Ytimndhnbbmedbaa
/- THE CELL 'sum', in the pinned program and in every row, IS THE sha256 OF THE DUMP (.gsa) THAT YtimndhnbbmedbaaProg.lean LOADS. Nothing in Lean hashes anything: it is a label: what it is worth is what the hold of that sum in a sandbox is worth. -/
noncomputable def Try.pinned : Pinned := { name := "ytimndhnbbmedbaa", sum := "a2c251afc28705a6226609fa45e6ffe9c29bc0bbeb46fa234e361c47ae70b1ff", checked := Try.checked }
namespace Rows
def none {H : Type} : Left H := { results := [], args := [] }

/-- 'stemkeep4.RLEAtAgreesWithDecode': WHATEVER THE INPUT: true; the input reads as it did. -/
def rLEAtAgreesWithDecodeSpec : ChangeSpec := { name := "rLEAtAgreesWithDecode", fn := fun _ => fun
  | [d1, d2] => { results := [.lit (.bool true)], args := [d1, d2] }
  | _ => none }
def rLEAtAgreesWithDecodeRow : OpenClaim := { program := "ytimndhnbbmedbaa", sum := "a2c251afc28705a6226609fa45e6ffe9c29bc0bbeb46fa234e361c47ae70b1ff", func := "stemma/stemkeep4.RLEAtAgreesWithDecode", spec := "rLEAtAgreesWithDecode", apart := false }
def RLEAtAgreesWithDecodeSaid : Prop := rLEAtAgreesWithDecodeRow.holds Try.pinned (OpenSpec.ofChange rLEAtAgreesWithDecodeSpec)

/-- ITS FALSE NEIGHBOUR: 'it returns false'. Refute it at one input. -/
def rLEAtAgreesWithDecodeWrong : ChangeSpec := { name := "rLEAtAgreesWithDecode", fn := fun _ => fun
  | [d1, d2] => { results := [.lit (.bool false)], args := [d1, d2] }
  | _ => none }
def RLEAtAgreesWithDecodeWrongFalsely : Prop := rLEAtAgreesWithDecodeRow.holds Try.pinned (OpenSpec.ofChange rLEAtAgreesWithDecodeWrong)

/-- 'stemkeep4.RLERoundTrip': WHATEVER THE INPUT: true; the input reads as it did. -/
def rLERoundTripSpec : ChangeSpec := { name := "rLERoundTrip", fn := fun _ => fun
  | [d] => { results := [.lit (.bool true)], args := [d] }
  | _ => none }
def rLERoundTripRow : OpenClaim := { program := "ytimndhnbbmedbaa", sum := "a2c251afc28705a6226609fa45e6ffe9c29bc0bbeb46fa234e361c47ae70b1ff", func := "stemma/stemkeep4.RLERoundTrip", spec := "rLERoundTrip", apart := false }
def RLERoundTripSaid : Prop := rLERoundTripRow.holds Try.pinned (OpenSpec.ofChange rLERoundTripSpec)

/-- ITS FALSE NEIGHBOUR: 'it returns false'. Refute it at one input. -/
def rLERoundTripWrong : ChangeSpec := { name := "rLERoundTrip", fn := fun _ => fun
  | [d] => { results := [.lit (.bool false)], args := [d] }
  | _ => none }
def RLERoundTripWrongFalsely : Prop := rLERoundTripRow.holds Try.pinned (OpenSpec.ofChange rLERoundTripWrong)

/-- 'stemkeep4.RLESpliceInverse': WHATEVER THE INPUT: true; the input reads as it did. -/
def rLESpliceInverseSpec : ChangeSpec := { name := "rLESpliceInverse", fn := fun _ => fun
  | [d1, d2, d3] => { results := [.lit (.bool true)], args := [d1, d2, d3] }
  | _ => none }
def rLESpliceInverseRow : OpenClaim := { program := "ytimndhnbbmedbaa", sum := "a2c251afc28705a6226609fa45e6ffe9c29bc0bbeb46fa234e361c47ae70b1ff", func := "stemma/stemkeep4.RLESpliceInverse", spec := "rLESpliceInverse", apart := false }
def RLESpliceInverseSaid : Prop := rLESpliceInverseRow.holds Try.pinned (OpenSpec.ofChange rLESpliceInverseSpec)

/-- ITS FALSE NEIGHBOUR: 'it returns false'. Refute it at one input. -/
def rLESpliceInverseWrong : ChangeSpec := { name := "rLESpliceInverse", fn := fun _ => fun
  | [d1, d2, d3] => { results := [.lit (.bool false)], args := [d1, d2, d3] }
  | _ => none }
def RLESpliceInverseWrongFalsely : Prop := rLESpliceInverseRow.holds Try.pinned (OpenSpec.ofChange rLESpliceInverseWrong)

/-- 'stemkeep4.RLEHistogramCounts': WHATEVER THE INPUT: true; the input reads as it did. -/
def rLEHistogramCountsSpec : ChangeSpec := { name := "rLEHistogramCounts", fn := fun _ => fun
  | [d] => { results := [.lit (.bool true)], args := [d] }
  | _ => none }
def rLEHistogramCountsRow : OpenClaim := { program := "ytimndhnbbmedbaa", sum := "a2c251afc28705a6226609fa45e6ffe9c29bc0bbeb46fa234e361c47ae70b1ff", func := "stemma/stemkeep4.RLEHistogramCounts", spec := "rLEHistogramCounts", inPlace := ["internal/bytealg.abigen_runtime_cmpstring"], unfollowed := true, recurses := true, apart := false }
def RLEHistogramCountsSaid : Prop := rLEHistogramCountsRow.holds Try.pinned (OpenSpec.ofChange rLEHistogramCountsSpec)

/-- ITS FALSE NEIGHBOUR: 'it returns false'. Refute it at one input. -/
def rLEHistogramCountsWrong : ChangeSpec := { name := "rLEHistogramCounts", fn := fun _ => fun
  | [d] => { results := [.lit (.bool false)], args := [d] }
  | _ => none }
def RLEHistogramCountsWrongFalsely : Prop := rLEHistogramCountsRow.holds Try.pinned (OpenSpec.ofChange rLEHistogramCountsWrong)

/- THE SECOND FORM. 'bulk': how many values and letters a reading holds, each counted each time it is reached (what is shared counts as often as it is met; a slice's spare places count too). A statement '..UptoSaid' is the law's where the arguments, and the package variables that the reading takes, are together of bulk at most 1048576: NARROWER than '..Said'. Prove '..Said' where nothing that the law and all that it calls make is longer than what came in: it says more and counts as full. Else prove '..UptoSaid'. A law counts once. -/
mutual
def uptoBulk {H : Type} : DataW H → Nat
  | .lit (.string bytes) => bytes.length + 1
  | .lit _ => 1
  | .nil => 1
  | .ptr d => uptoBulk d + 1
  | .slice elems spare => uptoBulkAll elems + uptoBulkAll spare + 1
  | .agg parts => uptoBulkAll parts + 1
  | .iface _ d => uptoBulk d + 1
  | .map entries => uptoBulkEntries entries + 1
  | .held _ => 1
def uptoBulkAll {H : Type} : List (DataW H) → Nat
  | [] => 0
  | d :: r => uptoBulk d + uptoBulkAll r
def uptoBulkEntries {H : Type} : List (Lit × DataW H) → Nat
  | [] => 0
  | x :: r => uptoBulkEntry x + uptoBulkEntries r
def uptoBulkEntry {H : Type} : Lit × DataW H → Nat
  | (.string bytes, d) => bytes.length + uptoBulk d + 1
  | (_, d) => uptoBulk d + 1
 end
def uptoSmall : (H : Type) → List (DataW H) → Bool := fun _ ds => decide (uptoBulkAll ds ≤ 1048576)
def OpenSpec.upto (s : _root_.Go.ChangeSpec) : _root_.Go.OpenSpec := { _root_.Go.OpenSpec.ofChange s with cond := some uptoSmall }

/-- 'stemkeep4.RLEAtAgreesWithDecode', WHERE WHAT IT READS IS OF BULK AT MOST 1048576: true; the input reads as it did. -/
def rLEAtAgreesWithDecodeUptoRow : OpenClaim := { program := "ytimndhnbbmedbaa", sum := "a2c251afc28705a6226609fa45e6ffe9c29bc0bbeb46fa234e361c47ae70b1ff", func := "stemma/stemkeep4.RLEAtAgreesWithDecode", spec := "rLEAtAgreesWithDecode", apart := false, narrowed := true }
def RLEAtAgreesWithDecodeUptoSaid : Prop := rLEAtAgreesWithDecodeUptoRow.holds Try.pinned (OpenSpec.upto rLEAtAgreesWithDecodeSpec)

/-- 'stemkeep4.RLERoundTrip', WHERE WHAT IT READS IS OF BULK AT MOST 1048576: true; the input reads as it did. -/
def rLERoundTripUptoRow : OpenClaim := { program := "ytimndhnbbmedbaa", sum := "a2c251afc28705a6226609fa45e6ffe9c29bc0bbeb46fa234e361c47ae70b1ff", func := "stemma/stemkeep4.RLERoundTrip", spec := "rLERoundTrip", apart := false, narrowed := true }
def RLERoundTripUptoSaid : Prop := rLERoundTripUptoRow.holds Try.pinned (OpenSpec.upto rLERoundTripSpec)

/-- 'stemkeep4.RLESpliceInverse', WHERE WHAT IT READS IS OF BULK AT MOST 1048576: true; the input reads as it did. -/
def rLESpliceInverseUptoRow : OpenClaim := { program := "ytimndhnbbmedbaa", sum := "a2c251afc28705a6226609fa45e6ffe9c29bc0bbeb46fa234e361c47ae70b1ff", func := "stemma/stemkeep4.RLESpliceInverse", spec := "rLESpliceInverse", apart := false, narrowed := true }
def RLESpliceInverseUptoSaid : Prop := rLESpliceInverseUptoRow.holds Try.pinned (OpenSpec.upto rLESpliceInverseSpec)

/-- 'stemkeep4.RLEHistogramCounts', WHERE WHAT IT READS IS OF BULK AT MOST 1048576: true; the input reads as it did. -/
def rLEHistogramCountsUptoRow : OpenClaim := { program := "ytimndhnbbmedbaa", sum := "a2c251afc28705a6226609fa45e6ffe9c29bc0bbeb46fa234e361c47ae70b1ff", func := "stemma/stemkeep4.RLEHistogramCounts", spec := "rLEHistogramCounts", inPlace := ["internal/bytealg.abigen_runtime_cmpstring"], unfollowed := true, recurses := true, apart := false, narrowed := true }
def RLEHistogramCountsUptoSaid : Prop := rLEHistogramCountsUptoRow.holds Try.pinned (OpenSpec.upto rLEHistogramCountsSpec)

end Rows
end Go.Proofs.Ytimndhnbbmedbaa
