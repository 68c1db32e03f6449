/-
  No cell of these rows narrows 'for every input' (looked for: loops, veiled, ifaces, maps, wideKeys, modest, calm, conditions, laid).
  DERIVED. THE GIVEN ROWS OF THIS SEAT. 5 by the template 'for every input the law returns true; each argument reads behind the call as it read before'; 0 by the template 'total and deterministic' (their statements: YtalgocjhcgmdlaaTotals.lean).
  GIVEN WITH THE SEED: the statements are not yours to turn. If you find one false, say at which input.
  Laid BY PROGRAM, IN A SANDBOX (cutbox-rows.mjs): the forced cells as the released guide's own fill.sh prints them over the translation 3af76be50b57fff7… (all of the seat's roots in one cut). By AI agents, Wed Nov 11 2026. No macro, syntax, notation, axiom, sorry.
-/
import Derived.Test.YtalgocjhcgmdlaaChecked
import GoSem.Claim
import GoSem.ClaimJoined
import GoSem.ClaimMapViews
import Derived.JoinedTies
import Derived.KernelRfl
namespace Go.Proofs.Ytalgocjhcgmdlaa
/- THE CELL 'sum', in the pinned program and in every row, IS THE sha256 OF THE DUMP (.gsa) THAT YtalgocjhcgmdlaaProg.lean LOADS. Nothing in Lean hashes anything: it is a label: what it is worth is what the hold of that sum in a sandbox is worth. -/
noncomputable def Try.pinned : Pinned := { name := "ytalgocjhcgmdlaa", sum := "3af76be50b57fff771b074f0afcaaa51b5e6c1064002933f53263ce9f6a10271", checked := Try.checked }
namespace Rows
def none {H : Type} : Left H := { results := [], args := [] }

/-- 'stemkeep4.SlottedPageCapacityIsTight': WHATEVER THE INPUT: true; the input reads as it did. -/
def slottedPageCapacityIsTightSpec : ChangeSpec := { name := "slottedPageCapacityIsTight", fn := fun _ => fun
  | [d] => { results := [.lit (.bool true)], args := [d] }
  | _ => none }
def slottedPageCapacityIsTightRow : OpenClaim := { program := "ytalgocjhcgmdlaa", sum := "3af76be50b57fff771b074f0afcaaa51b5e6c1064002933f53263ce9f6a10271", func := "stemma/stemkeep4.SlottedPageCapacityIsTight", spec := "slottedPageCapacityIsTight", apart := false }
def SlottedPageCapacityIsTightSaid : Prop := slottedPageCapacityIsTightRow.holds Try.pinned (OpenSpec.ofChange slottedPageCapacityIsTightSpec)

/-- ITS FALSE NEIGHBOUR: 'it returns false'. Refute it at one input. -/
def slottedPageCapacityIsTightWrong : ChangeSpec := { name := "slottedPageCapacityIsTight", fn := fun _ => fun
  | [d] => { results := [.lit (.bool false)], args := [d] }
  | _ => none }
def SlottedPageCapacityIsTightWrongFalsely : Prop := slottedPageCapacityIsTightRow.holds Try.pinned (OpenSpec.ofChange slottedPageCapacityIsTightWrong)

/-- 'stemkeep4.SlottedPageGetAfterInsert': WHATEVER THE INPUT: true; the input reads as it did. -/
def slottedPageGetAfterInsertSpec : ChangeSpec := { name := "slottedPageGetAfterInsert", fn := fun _ => fun
  | [d] => { results := [.lit (.bool true)], args := [d] }
  | _ => none }
def slottedPageGetAfterInsertRow : OpenClaim := { program := "ytalgocjhcgmdlaa", sum := "3af76be50b57fff771b074f0afcaaa51b5e6c1064002933f53263ce9f6a10271", func := "stemma/stemkeep4.SlottedPageGetAfterInsert", spec := "slottedPageGetAfterInsert", apart := false }
def SlottedPageGetAfterInsertSaid : Prop := slottedPageGetAfterInsertRow.holds Try.pinned (OpenSpec.ofChange slottedPageGetAfterInsertSpec)

/-- ITS FALSE NEIGHBOUR: 'it returns false'. Refute it at one input. -/
def slottedPageGetAfterInsertWrong : ChangeSpec := { name := "slottedPageGetAfterInsert", fn := fun _ => fun
  | [d] => { results := [.lit (.bool false)], args := [d] }
  | _ => none }
def SlottedPageGetAfterInsertWrongFalsely : Prop := slottedPageGetAfterInsertRow.holds Try.pinned (OpenSpec.ofChange slottedPageGetAfterInsertWrong)

/-- 'stemkeep4.SlottedPageDeleteKeepsOthers': WHATEVER THE INPUT: true; the input reads as it did. -/
def slottedPageDeleteKeepsOthersSpec : ChangeSpec := { name := "slottedPageDeleteKeepsOthers", fn := fun _ => fun
  | [d1, d2] => { results := [.lit (.bool true)], args := [d1, d2] }
  | _ => none }
def slottedPageDeleteKeepsOthersRow : OpenClaim := { program := "ytalgocjhcgmdlaa", sum := "3af76be50b57fff771b074f0afcaaa51b5e6c1064002933f53263ce9f6a10271", func := "stemma/stemkeep4.SlottedPageDeleteKeepsOthers", spec := "slottedPageDeleteKeepsOthers", apart := false }
def SlottedPageDeleteKeepsOthersSaid : Prop := slottedPageDeleteKeepsOthersRow.holds Try.pinned (OpenSpec.ofChange slottedPageDeleteKeepsOthersSpec)

/-- ITS FALSE NEIGHBOUR: 'it returns false'. Refute it at one input. -/
def slottedPageDeleteKeepsOthersWrong : ChangeSpec := { name := "slottedPageDeleteKeepsOthers", fn := fun _ => fun
  | [d1, d2] => { results := [.lit (.bool false)], args := [d1, d2] }
  | _ => none }
def SlottedPageDeleteKeepsOthersWrongFalsely : Prop := slottedPageDeleteKeepsOthersRow.holds Try.pinned (OpenSpec.ofChange slottedPageDeleteKeepsOthersWrong)

/-- 'stemkeep4.SlottedPageUpdateKeepsOthers': WHATEVER THE INPUT: true; the input reads as it did. -/
def slottedPageUpdateKeepsOthersSpec : ChangeSpec := { name := "slottedPageUpdateKeepsOthers", fn := fun _ => fun
  | [d1, d2, d3] => { results := [.lit (.bool true)], args := [d1, d2, d3] }
  | _ => none }
def slottedPageUpdateKeepsOthersRow : OpenClaim := { program := "ytalgocjhcgmdlaa", sum := "3af76be50b57fff771b074f0afcaaa51b5e6c1064002933f53263ce9f6a10271", func := "stemma/stemkeep4.SlottedPageUpdateKeepsOthers", spec := "slottedPageUpdateKeepsOthers", apart := false }
def SlottedPageUpdateKeepsOthersSaid : Prop := slottedPageUpdateKeepsOthersRow.holds Try.pinned (OpenSpec.ofChange slottedPageUpdateKeepsOthersSpec)

/-- ITS FALSE NEIGHBOUR: 'it returns false'. Refute it at one input. -/
def slottedPageUpdateKeepsOthersWrong : ChangeSpec := { name := "slottedPageUpdateKeepsOthers", fn := fun _ => fun
  | [d1, d2, d3] => { results := [.lit (.bool false)], args := [d1, d2, d3] }
  | _ => none }
def SlottedPageUpdateKeepsOthersWrongFalsely : Prop := slottedPageUpdateKeepsOthersRow.holds Try.pinned (OpenSpec.ofChange slottedPageUpdateKeepsOthersWrong)

/-- 'stemkeep4.SlottedPageCompactKeepsContents': WHATEVER THE INPUT: true; the input reads as it did. -/
def slottedPageCompactKeepsContentsSpec : ChangeSpec := { name := "slottedPageCompactKeepsContents", fn := fun _ => fun
  | [d1, d2] => { results := [.lit (.bool true)], args := [d1, d2] }
  | _ => none }
def slottedPageCompactKeepsContentsRow : OpenClaim := { program := "ytalgocjhcgmdlaa", sum := "3af76be50b57fff771b074f0afcaaa51b5e6c1064002933f53263ce9f6a10271", func := "stemma/stemkeep4.SlottedPageCompactKeepsContents", spec := "slottedPageCompactKeepsContents", apart := false }
def SlottedPageCompactKeepsContentsSaid : Prop := slottedPageCompactKeepsContentsRow.holds Try.pinned (OpenSpec.ofChange slottedPageCompactKeepsContentsSpec)

/-- ITS FALSE NEIGHBOUR: 'it returns false'. Refute it at one input. -/
def slottedPageCompactKeepsContentsWrong : ChangeSpec := { name := "slottedPageCompactKeepsContents", fn := fun _ => fun
  | [d1, d2] => { results := [.lit (.bool false)], args := [d1, d2] }
  | _ => none }
def SlottedPageCompactKeepsContentsWrongFalsely : Prop := slottedPageCompactKeepsContentsRow.holds Try.pinned (OpenSpec.ofChange slottedPageCompactKeepsContentsWrong)

/- THE SECOND FORM. 'bulk': how many values and letters a reading holds, each counted each time it is reached (what is shared counts as often as it is met; a slice's spare places count too). A statement '..UptoSaid' is the law's where the arguments, and the package variables that the reading takes, are together of bulk at most 1048576: NARROWER than '..Said'. Prove '..Said' where nothing that the law and all that it calls make is longer than what came in: it says more and counts as full. Else prove '..UptoSaid'. A law counts once. -/
mutual
def uptoBulk {H : Type} : DataW H → Nat
  | .lit (.string bytes) => bytes.length + 1
  | .lit _ => 1
  | .nil => 1
  | .ptr d => uptoBulk d + 1
  | .slice elems spare => uptoBulkAll elems + uptoBulkAll spare + 1
  | .agg parts => uptoBulkAll parts + 1
  | .iface _ d => uptoBulk d + 1
  | .map entries => uptoBulkEntries entries + 1
  | .held _ => 1
def uptoBulkAll {H : Type} : List (DataW H) → Nat
  | [] => 0
  | d :: r => uptoBulk d + uptoBulkAll r
def uptoBulkEntries {H : Type} : List (Lit × DataW H) → Nat
  | [] => 0
  | x :: r => uptoBulkEntry x + uptoBulkEntries r
def uptoBulkEntry {H : Type} : Lit × DataW H → Nat
  | (.string bytes, d) => bytes.length + uptoBulk d + 1
  | (_, d) => uptoBulk d + 1
 end
def uptoSmall : (H : Type) → List (DataW H) → Bool := fun _ ds => decide (uptoBulkAll ds ≤ 1048576)
def OpenSpec.upto (s : _root_.Go.ChangeSpec) : _root_.Go.OpenSpec := { _root_.Go.OpenSpec.ofChange s with cond := some uptoSmall }

/-- 'stemkeep4.SlottedPageCapacityIsTight', WHERE WHAT IT READS IS OF BULK AT MOST 1048576: true; the input reads as it did. -/
def slottedPageCapacityIsTightUptoRow : OpenClaim := { program := "ytalgocjhcgmdlaa", sum := "3af76be50b57fff771b074f0afcaaa51b5e6c1064002933f53263ce9f6a10271", func := "stemma/stemkeep4.SlottedPageCapacityIsTight", spec := "slottedPageCapacityIsTight", apart := false, narrowed := true }
def SlottedPageCapacityIsTightUptoSaid : Prop := slottedPageCapacityIsTightUptoRow.holds Try.pinned (OpenSpec.upto slottedPageCapacityIsTightSpec)

/-- 'stemkeep4.SlottedPageGetAfterInsert', WHERE WHAT IT READS IS OF BULK AT MOST 1048576: true; the input reads as it did. -/
def slottedPageGetAfterInsertUptoRow : OpenClaim := { program := "ytalgocjhcgmdlaa", sum := "3af76be50b57fff771b074f0afcaaa51b5e6c1064002933f53263ce9f6a10271", func := "stemma/stemkeep4.SlottedPageGetAfterInsert", spec := "slottedPageGetAfterInsert", apart := false, narrowed := true }
def SlottedPageGetAfterInsertUptoSaid : Prop := slottedPageGetAfterInsertUptoRow.holds Try.pinned (OpenSpec.upto slottedPageGetAfterInsertSpec)

/-- 'stemkeep4.SlottedPageDeleteKeepsOthers', WHERE WHAT IT READS IS OF BULK AT MOST 1048576: true; the input reads as it did. -/
def slottedPageDeleteKeepsOthersUptoRow : OpenClaim := { program := "ytalgocjhcgmdlaa", sum := "3af76be50b57fff771b074f0afcaaa51b5e6c1064002933f53263ce9f6a10271", func := "stemma/stemkeep4.SlottedPageDeleteKeepsOthers", spec := "slottedPageDeleteKeepsOthers", apart := false, narrowed := true }
def SlottedPageDeleteKeepsOthersUptoSaid : Prop := slottedPageDeleteKeepsOthersUptoRow.holds Try.pinned (OpenSpec.upto slottedPageDeleteKeepsOthersSpec)

/-- 'stemkeep4.SlottedPageUpdateKeepsOthers', WHERE WHAT IT READS IS OF BULK AT MOST 1048576: true; the input reads as it did. -/
def slottedPageUpdateKeepsOthersUptoRow : OpenClaim := { program := "ytalgocjhcgmdlaa", sum := "3af76be50b57fff771b074f0afcaaa51b5e6c1064002933f53263ce9f6a10271", func := "stemma/stemkeep4.SlottedPageUpdateKeepsOthers", spec := "slottedPageUpdateKeepsOthers", apart := false, narrowed := true }
def SlottedPageUpdateKeepsOthersUptoSaid : Prop := slottedPageUpdateKeepsOthersUptoRow.holds Try.pinned (OpenSpec.upto slottedPageUpdateKeepsOthersSpec)

/-- 'stemkeep4.SlottedPageCompactKeepsContents', WHERE WHAT IT READS IS OF BULK AT MOST 1048576: true; the input reads as it did. -/
def slottedPageCompactKeepsContentsUptoRow : OpenClaim := { program := "ytalgocjhcgmdlaa", sum := "3af76be50b57fff771b074f0afcaaa51b5e6c1064002933f53263ce9f6a10271", func := "stemma/stemkeep4.SlottedPageCompactKeepsContents", spec := "slottedPageCompactKeepsContents", apart := false, narrowed := true }
def SlottedPageCompactKeepsContentsUptoSaid : Prop := slottedPageCompactKeepsContentsUptoRow.holds Try.pinned (OpenSpec.upto slottedPageCompactKeepsContentsSpec)

end Rows
end Go.Proofs.Ytalgocjhcgmdlaa
