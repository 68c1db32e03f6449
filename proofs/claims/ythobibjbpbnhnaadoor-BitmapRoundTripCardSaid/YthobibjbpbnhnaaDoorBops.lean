/-
  The walks of bitmap.And, Or, AndNot.
-/
import Derived.Test.YthobibjbpbnhnaaDoorCmb
namespace Go.Proofs.YthobibjbpbnhnaaDoor
open Go.RowKit

/-- The result stored in the box of the results. -/
theorem bm_store {w w5 : World} {n : Nat} {gs : List Nat} {sa sb v : Value} {B : Nat} (hB : w.heap.size + 3 ≤ B) (hk : KInv w n sa sb w5) (hb : Bm w5 (fun k => B ≤ k ∧ k < w5.heap.size) v n gs) :
    ∃ A m c, v = .agg #[.int .i64 n, .slice A m c] ∧ Bm ((w5.setCell ⟨w.heap.size + 2, 0, none⟩ (.int .i64 n)).setCell ⟨w.heap.size + 2, 1, none⟩ (.slice A m c)) (fun k => w.heap.size ≤ k ∧ k < w5.heap.size) (.agg #[.int .i64 n, .slice A m c]) n gs ∧
      Below w.heap.size w ((w5.setCell ⟨w.heap.size + 2, 0, none⟩ (.int .i64 n)).setCell ⟨w.heap.size + 2, 1, none⟩ (.slice A m c)) ∧
      ((w5.setCell ⟨w.heap.size + 2, 0, none⟩ (.int .i64 n)).setCell ⟨w.heap.size + 2, 1, none⟩ (.slice A m c)).heap[w.heap.size + 2]? = some (.cells #[.int .i64 n, .slice A m c] 25 (0, 0)) := by
  obtain ⟨⟨A, c, rfl, he⟩, hg⟩ := hb
  refine ⟨A, _, c, rfl, ⟨⟨A, c, rfl, (he.keep fun k hk => ?_).more fun k hk => ⟨by omega, hk.2⟩⟩, hg⟩, (hk.below.setCell (p := ⟨w.heap.size + 2, 0, none⟩) (by show _ ≤ w.heap.size + 2; omega) _).setCell (p := ⟨w.heap.size + 2, 1, none⟩) (by show _ ≤ w.heap.size + 2; omega) _, ?_⟩
  · have h1 : k ≠ w.heap.size + 2 := by omega
    exact (Below.heap_setCell _ _ _ _ h1).trans (Below.heap_setCell _ _ _ _ h1)
  · have e0 := heap_setCell_same _ (w.heap.size + 2) 0 _ _ (.int .i64 n) hk.b6
    exact heap_setCell_same _ (w.heap.size + 2) 1 _ _ (.slice A (comp gs).length c) e0

end Go.Proofs.YthobibjbpbnhnaaDoor
