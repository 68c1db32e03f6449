/-
  A bitmap in a box (as in XDemw; for a seat that has no DeMorgan).
-/
import Derived.Test.YthobibjbpbnhnaaDoorBits
namespace Go.Proofs.YthobibjbpbnhnaaDoor
open Go.RowKit

/-- A bitmap in a box. -/
structure BV (w : World) (p n : Nat) (A : Option Addr) (m c : Nat) (gs : List Nat) : Prop where
  row : w.heap[p]? = some (.cells #[.int .i64 n, .slice A m c] 25 (0, 0))
  bm : Bm w (· < w.heap.size) (.agg #[.int .i64 n, .slice A m c]) n gs
section
variable {w w' : World} {p n : Nat} {A : Option Addr} {m c : Nat} {gs : List Nat}
theorem BV.lt (h : BV w p n A m c gs) : p < w.heap.size := (Array.getElem?_eq_some_iff.1 h.row).1
theorem BV.c0 (h : BV w p n A m c gs) : w.cell? ⟨p, 0, none⟩ = some (.int .i64 n) := cell_of_row _ _ 0 _ _ _ h.row
theorem BV.c1 (h : BV w p n A m c gs) : w.cell? ⟨p, 1, none⟩ = some (.slice A m c) := cell_of_row _ _ 1 _ _ _ h.row
theorem BV.keep (h : BV w p n A m c gs) (hb : Below w.heap.size w w') : BV w' p n A m c gs :=
  ⟨(hb.block _ h.lt).trans h.row, (h.bm.keep (Keeps.of_below hb fun _ h => h)).more fun k (hk : k < w.heap.size) => Nat.lt_of_lt_of_le hk hb.size⟩
theorem BV.alloc (h : BV w p n A m c gs) (o : Obj) : BV (w.alloc o) p n A m c gs := h.keep ((Below.refl _ _).alloc (Nat.le_refl _) _)
/-- A fresh box. -/
theorem bv_new {S : Nat → Prop} {v : Value} (h : Bm w S v n gs) (hS : ∀ k, S k → k < w.heap.size) : ∃ A m c, v = .agg #[.int .i64 n, .slice A m c] ∧ BV (w.alloc (.cells #[.int .i64 n, .slice A m c] 25)) w.heap.size n A m c gs := by
  obtain ⟨A, c, rfl, he⟩ := h.val
  refine ⟨A, _, c, rfl, heap_alloc_new _ _, ?_⟩
  exact ((h.more hS).keep (Keeps.of_below ((Below.refl _ _).alloc (Nat.le_refl _) (.cells #[.int .i64 n, .slice A (comp gs).length c] 25)) fun _ h => h)).more fun k (hk : k < w.heap.size) => Nat.lt_of_lt_of_le hk (le_size1 (Nat.le_refl _) _)
theorem BV.elems (h : BV w p n A m c gs) : m = (comp gs).length ∧ Elems 1 intCs w (· < w.heap.size) A (comp gs) := by
  obtain ⟨A', c', e, he⟩ := h.bm.val
  have e2 := congrArg (fun v : Value => match v with | .agg a => a.toList | _ => []) e
  simp at e2
  obtain ⟨rfl, rfl, rfl⟩ := e2
  exact ⟨rfl, he⟩
end

end Go.Proofs.YthobibjbpbnhnaaDoor
