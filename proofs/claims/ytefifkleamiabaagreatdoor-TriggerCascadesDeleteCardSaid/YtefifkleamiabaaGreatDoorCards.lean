/-
  DERIVED. GIVEN WITH THE SEED: THE CARDS: each row of YtefifkleamiabaaGreatDoorRows.lean that lists a variable, with what it lists TIED to the program's text (the seventh form; the later family's looks); each row that meets fmt, with fmt's text TOLD by the authors' own Lean function (tested against real Go, not proved from fmt's source: count such statements apart). THE CARD IS WHAT COUNTS. Prove the row's statement (the work); the ties are given (YtefifkleamiabaaGreatDoorTie.lean); close each card by the builder's one call (the guide's Derived/Test/ToyasCard.lean, 'card_holds'). Laid BY PROGRAM, IN A SANDBOX (cutbox-door.mjs). By AI agents, Wed Nov 11 2026. No macro, syntax, notation, axiom, sorry.
-/
import Derived.Test.YtefifkleamiabaaGreatDoorRows
import GoSem.ClaimSeven
namespace Go.Proofs.YtefifkleamiabaaGreatDoor
namespace Rows

/-- THE TIED CARD OF 'stemkeep4.TriggerWithoutTriggersIsApply'. -/
def triggerWithoutTriggersIsApplyCard : Claim7 := { stood := { row := triggerWithoutTriggersIsApplyRow, standIns := [], harness := (true, "5ffd1bc6e65619b94d44c0cc0ccbfcd830f4bb730520e5924b0a2d812d61fa98"), looks := false }, kinds := [], alts := [], laidByText := true, laidKinds := [.data, .data, .data, .data, .pinned], laidTests := true, laidLooks := .later }
def TriggerWithoutTriggersIsApplyCardSaid : Prop := Claim7.holds Tryz.pinned (.plain (OpenSpec.ofChange triggerWithoutTriggersIsApplySpec)) triggerWithoutTriggersIsApplyCard

/-- THE TIED CARD OF 'stemkeep4.TriggerExpansionReplays'. -/
def triggerExpansionReplaysCard : Claim7 := { stood := { row := triggerExpansionReplaysRow, standIns := [], harness := (true, "5ffd1bc6e65619b94d44c0cc0ccbfcd830f4bb730520e5924b0a2d812d61fa98"), looks := false }, kinds := [], alts := [], laidByText := true, laidKinds := [.data, .data, .data, .data, .pinned], laidTests := true, laidLooks := .later }
def TriggerExpansionReplaysCardSaid : Prop := Claim7.holds Tryz.pinned (.plain (OpenSpec.ofChange triggerExpansionReplaysSpec)) triggerExpansionReplaysCard

/-- THE TIED CARD OF 'stemkeep4.TriggerCascadesDelete'. -/
def triggerCascadesDeleteCard : Claim7 := { stood := { row := triggerCascadesDeleteRow, standIns := [], harness := (true, "5ffd1bc6e65619b94d44c0cc0ccbfcd830f4bb730520e5924b0a2d812d61fa98"), looks := false }, kinds := [], alts := [], laidByText := true, laidKinds := [.data, .data, .data, .data, .pinned], laidTests := true, laidLooks := .later }
def TriggerCascadesDeleteCardSaid : Prop := Claim7.holds Tryz.pinned (.plain (OpenSpec.ofChange triggerCascadesDeleteSpec)) triggerCascadesDeleteCard

/-- THE TIED CARD OF 'stemkeep4.ViolationsEmptyIffValid'. -/
def violationsEmptyIffValidCard : Claim7 := { stood := { row := violationsEmptyIffValidRow, standIns := [], harness := (true, "5ffd1bc6e65619b94d44c0cc0ccbfcd830f4bb730520e5924b0a2d812d61fa98"), looks := false }, kinds := [], alts := [], laidByText := true, laidKinds := [.data, .data, .data, .data, .pinned], laidTests := true, laidLooks := .later }
def ViolationsEmptyIffValidCardSaid : Prop := Claim7.holds Tryz.pinned (.plain (OpenSpec.ofChange violationsEmptyIffValidSpec)) violationsEmptyIffValidCard

/-- THE TIED CARD OF 'stemkeep4.ViolationsRemovalRepairs'. -/
def violationsRemovalRepairsCard : Claim7 := { stood := { row := violationsRemovalRepairsRow, standIns := [], harness := (true, "5ffd1bc6e65619b94d44c0cc0ccbfcd830f4bb730520e5924b0a2d812d61fa98"), looks := false }, kinds := [], alts := [], laidByText := true, laidKinds := [.data, .data, .data, .data, .pinned], laidTests := true, laidLooks := .later }
def ViolationsRemovalRepairsCardSaid : Prop := Claim7.holds Tryz.pinned (.plain (OpenSpec.ofChange violationsRemovalRepairsSpec)) violationsRemovalRepairsCard

/-- THE SECOND FORM's CARD OF 'stemkeep4.TriggerWithoutTriggersIsApply'. -/
def triggerWithoutTriggersIsApplyUptoCard : Claim7 := { stood := { row := triggerWithoutTriggersIsApplyUptoRow, standIns := [], harness := (true, "5ffd1bc6e65619b94d44c0cc0ccbfcd830f4bb730520e5924b0a2d812d61fa98"), looks := false }, kinds := [], alts := [], laidByText := true, laidKinds := [.data, .data, .data, .data, .pinned], laidTests := true, laidLooks := .later }
def TriggerWithoutTriggersIsApplyUptoCardSaid : Prop := Claim7.holds Tryz.pinned (.plain (OpenSpec.upto triggerWithoutTriggersIsApplySpec)) triggerWithoutTriggersIsApplyUptoCard

/-- THE SECOND FORM's CARD OF 'stemkeep4.TriggerExpansionReplays'. -/
def triggerExpansionReplaysUptoCard : Claim7 := { stood := { row := triggerExpansionReplaysUptoRow, standIns := [], harness := (true, "5ffd1bc6e65619b94d44c0cc0ccbfcd830f4bb730520e5924b0a2d812d61fa98"), looks := false }, kinds := [], alts := [], laidByText := true, laidKinds := [.data, .data, .data, .data, .pinned], laidTests := true, laidLooks := .later }
def TriggerExpansionReplaysUptoCardSaid : Prop := Claim7.holds Tryz.pinned (.plain (OpenSpec.upto triggerExpansionReplaysSpec)) triggerExpansionReplaysUptoCard

/-- THE SECOND FORM's CARD OF 'stemkeep4.TriggerCascadesDelete'. -/
def triggerCascadesDeleteUptoCard : Claim7 := { stood := { row := triggerCascadesDeleteUptoRow, standIns := [], harness := (true, "5ffd1bc6e65619b94d44c0cc0ccbfcd830f4bb730520e5924b0a2d812d61fa98"), looks := false }, kinds := [], alts := [], laidByText := true, laidKinds := [.data, .data, .data, .data, .pinned], laidTests := true, laidLooks := .later }
def TriggerCascadesDeleteUptoCardSaid : Prop := Claim7.holds Tryz.pinned (.plain (OpenSpec.upto triggerCascadesDeleteSpec)) triggerCascadesDeleteUptoCard

/-- THE SECOND FORM's CARD OF 'stemkeep4.ViolationsEmptyIffValid'. -/
def violationsEmptyIffValidUptoCard : Claim7 := { stood := { row := violationsEmptyIffValidUptoRow, standIns := [], harness := (true, "5ffd1bc6e65619b94d44c0cc0ccbfcd830f4bb730520e5924b0a2d812d61fa98"), looks := false }, kinds := [], alts := [], laidByText := true, laidKinds := [.data, .data, .data, .data, .pinned], laidTests := true, laidLooks := .later }
def ViolationsEmptyIffValidUptoCardSaid : Prop := Claim7.holds Tryz.pinned (.plain (OpenSpec.upto violationsEmptyIffValidSpec)) violationsEmptyIffValidUptoCard

/-- THE SECOND FORM's CARD OF 'stemkeep4.ViolationsRemovalRepairs'. -/
def violationsRemovalRepairsUptoCard : Claim7 := { stood := { row := violationsRemovalRepairsUptoRow, standIns := [], harness := (true, "5ffd1bc6e65619b94d44c0cc0ccbfcd830f4bb730520e5924b0a2d812d61fa98"), looks := false }, kinds := [], alts := [], laidByText := true, laidKinds := [.data, .data, .data, .data, .pinned], laidTests := true, laidLooks := .later }
def ViolationsRemovalRepairsUptoCardSaid : Prop := Claim7.holds Tryz.pinned (.plain (OpenSpec.upto violationsRemovalRepairsSpec)) violationsRemovalRepairsUptoCard
end Rows
end Go.Proofs.YtefifkleamiabaaGreatDoor
