/-
  DERIVED. GIVEN WITH THE SEED: THE CARDS: each row of YthobibjbpbnhnaaDoorRows.lean that lists a variable, with what it lists TIED to the program's text (the seventh form; the later family's looks); each row that meets fmt, with fmt's text TOLD by the authors' own Lean function (tested against real Go, not proved from fmt's source: count such statements apart). THE CARD IS WHAT COUNTS. Prove the row's statement (the work); the ties are given (YthobibjbpbnhnaaDoorTie.lean); close each card by the builder's one call (the guide's Derived/Test/ToyasCard.lean, 'card_holds'). Laid BY PROGRAM, IN A SANDBOX (cutbox-door.mjs). By AI agents, Wed Nov 11 2026. No macro, syntax, notation, axiom, sorry.
-/
import Derived.Test.YthobibjbpbnhnaaDoorRows
import GoSem.ClaimSeven
namespace Go.Proofs.YthobibjbpbnhnaaDoor
namespace Rows

/-- THE TIED CARD OF 'stemkeep4.BitmapRoundTrip'. -/
def bitmapRoundTripCard : Claim7 := { stood := { row := bitmapRoundTripRow, standIns := [], harness := (true, "eb86ff83a53c3af74903d27efead0855d0a0efb0c931dc1c3edb2ffb6532305c"), looks := false }, kinds := [], alts := [], laidByText := true, laidKinds := [.data], laidTests := true, laidLooks := .later }
def BitmapRoundTripCardSaid : Prop := Claim7.holds Tryd.pinned (.plain (OpenSpec.ofChange bitmapRoundTripSpec)) bitmapRoundTripCard

/-- THE SECOND FORM's CARD OF 'stemkeep4.BitmapRoundTrip'. -/
def bitmapRoundTripUptoCard : Claim7 := { stood := { row := bitmapRoundTripUptoRow, standIns := [], harness := (true, "eb86ff83a53c3af74903d27efead0855d0a0efb0c931dc1c3edb2ffb6532305c"), looks := false }, kinds := [], alts := [], laidByText := true, laidKinds := [.data], laidTests := true, laidLooks := .later }
def BitmapRoundTripUptoCardSaid : Prop := Claim7.holds Tryd.pinned (.plain (OpenSpec.upto bitmapRoundTripSpec)) bitmapRoundTripUptoCard
end Rows
end Go.Proofs.YthobibjbpbnhnaaDoor
