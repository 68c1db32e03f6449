/-
  The walks of bitmap.Ones, FromIndices.
-/
import Derived.Test.YthobibjbpbnhnaaDoorBops
import Derived.Laws.OwnMore
namespace Go.Proofs.YthobibjbpbnhnaaDoor
open Go.RowKit

theorem rep_cells (m : Nat) : List.replicate m (Value.int .i64 0) = (List.replicate m (0 : Nat)).flatMap natCs := by
  induction m with
  | zero => rfl
  | succ m ih => rw [List.replicate_succ, List.replicate_succ, List.flatMap_cons, ← ih]; rfl

/-- make([]int, m). -/
theorem make_nats (m : Nat) (hm : m ≤ 4000) : ∃ Z : Array Value, (∀ W : World, (Instr.makeSlice 22 (.int .i64 (m : Int)) (.int .i64 (m : Int))).run Tryd.prog W = .ok (.slice (some ⟨W.heap.size, 0, none⟩) m m) (W.alloc (.cells Z 3))) ∧
    ∀ (W : World) (base : Nat), base ≤ W.heap.size → Nats base (W.alloc (.cells Z 3)) (.slice (some ⟨W.heap.size, 0, none⟩) m m) (List.replicate m 0) := by
  have h : (Tryd.prog.info? 3).map (fun i => (i.zero, i.size, i.bytes)) = some (some (.int .i64 0), 1, 8) := by kernel_rfl
  obtain ⟨i, hi, hz, h1, h2⟩ := info_parts h
  refine ⟨madeCells (Value.int .i64 0).cells m, fun W => ?_, fun W base hb => ?_⟩
  · have := run_makeSlice (P := Tryd.prog) W 22 3 i (.int .i64 0) Tryd.underlying22 hi hz .i64 .i64 m m (by omega) (Int.le_refl _) (by rw [h1]; simp; omega) (by rw [h2]; omega) (by omega)
    rw [h1] at this
    simpa using this
  · have := World.ownsRow_lit (base := base) (e := 3) (size := 1) W (madeCells (Value.int .i64 0).cells m) m hb (by unfold maxLen; omega) (by rw [size_madeCells]; omega)
    have e : (madeCells (Value.int .i64 0).cells m).toList = (List.replicate m 0).flatMap natCs := by
      rw [← rep_cells]
      exact toList_madeCells_one _ _
    rw [e] at this
    unfold Nats Own
    rw [List.length_replicate]
    exact this

/-- The box of the results alone. -/
structure RInv (w : World) (wr : World) : Prop where
  below : Below w.heap.size w wr
  b : wr.heap[w.heap.size]? = some (.cells #[.int .i64 0, .slice none 0 0] 25 (0, 0))
theorem RInv.lb {w wr : World} (h : RInv w wr) : w.heap.size + 1 ≤ wr.heap.size := (Array.getElem?_eq_some_iff.1 h.b).1
theorem RInv.keep {w wr w1 : World} {B : Nat} (h : RInv w wr) (hb : Below B wr w1) (hB : w.heap.size + 1 ≤ B) : RInv w w1 :=
  ⟨h.below.trans (hb.mono (by omega)), (hb.block _ (by omega)).trans h.b⟩
theorem RInv.first (w : World) : RInv w (w.alloc (.cells #[.int .i64 0, .slice none 0 0] 25)) := ⟨(Below.refl _ _).alloc (Nat.le_refl _) _, heap_alloc_new _ _⟩
theorem RInv.set {w wr : World} (h : RInv w wr) {g k : Nat} (hg : w.heap.size + 1 ≤ g) (v : Value) : RInv w (wr.setCell ⟨g, k, none⟩ v) :=
  ⟨h.below.setCell (p := ⟨g, k, none⟩) (by show _ ≤ g; omega) _, (Below.heap_setCell _ _ _ _ (by show w.heap.size ≠ g; omega)).trans h.b⟩

/-- The result stored in the box of the results. -/
theorem rm_store {w w5 : World} {n : Nat} {gs : List Nat} {v : Value} {B : Nat} (hB : w.heap.size + 1 ≤ B) (hk : RInv w w5) (hg : Good n gs) (hv : Ints B w5 v (comp gs)) :
    ∃ A m c, v = .slice A m c ∧ Bm ((w5.setCell ⟨w.heap.size, 0, none⟩ (.int .i64 n)).setCell ⟨w.heap.size, 1, none⟩ (.slice A m c)) (fun k => w.heap.size ≤ k ∧ k < w5.heap.size) (.agg #[.int .i64 n, .slice A m c]) n gs ∧
      Below w.heap.size w ((w5.setCell ⟨w.heap.size, 0, none⟩ (.int .i64 n)).setCell ⟨w.heap.size, 1, none⟩ (.slice A m c)) ∧
      ((w5.setCell ⟨w.heap.size, 0, none⟩ (.int .i64 n)).setCell ⟨w.heap.size, 1, none⟩ (.slice A m c)).heap[w.heap.size]? = some (.cells #[.int .i64 n, .slice A m c] 25 (0, 0)) := by
  obtain ⟨A, m, c, rfl, rfl⟩ := hv.form'
  have he := (hv.elems intLay.len rfl)
  refine ⟨A, _, c, rfl, ⟨⟨A, c, rfl, (he.keep fun k hk => ?_).more fun k hk => ⟨by have := (hv.lt k hk).1; omega, (hv.lt k hk).2⟩⟩, hg⟩, (hk.below.setCell (p := ⟨w.heap.size, 0, none⟩) (Nat.le_refl _) _).setCell (p := ⟨w.heap.size, 1, none⟩) (Nat.le_refl _) _, ?_⟩
  · have h1 : k ≠ w.heap.size := by have := (hv.lt k hk).1; omega
    exact (Below.heap_setCell _ _ _ _ h1).trans (Below.heap_setCell _ _ _ _ h1)
  · have e0 := heap_setCell_same _ (w.heap.size) 0 _ _ (.int .i64 n) hk.b
    exact heap_setCell_same _ (w.heap.size) 1 _ _ (.slice A (comp gs).length c) e0

def onesG (n : Nat) : List Nat := (List.replicate (gc n) 2147483647).set (gc n - 1) (mask n)

theorem good_ones {n : Nat} (hn1 : 1 ≤ n) : Good n (onesG n) := by
  refine ⟨by simp [onesG], fun k g hk j hj => ?_⟩
  unfold onesG at hk
  rw [List.getElem?_set] at hk
  have hgc : gc n = (n + 30) / 31 := rfl
  by_cases h : gc n - 1 = k
  · rw [if_pos h] at hk
    rw [if_pos (by simp; omega)] at hk
    injection hk with hk
    subst hk
    rw [testBit_mask] at hj
    have hj' := of_decide_eq_true hj
    split at hj' <;> omega
  · rw [if_neg h, List.getElem?_replicate] at hk
    split at hk
    · injection hk with hk
      subst hk
      rw [testBit_ones31] at hj
      have hj' := of_decide_eq_true hj
      omega
    · cases hk

theorem rep_set (a : Nat) {m k : Nat} (hk : k < m) : (List.replicate k a ++ List.replicate (m - k) 0).set k a = List.replicate (k + 1) a ++ List.replicate (m - (k + 1)) 0 := by
  rw [List.set_append_right _ _ (by simp), List.length_replicate, Nat.sub_self, show m - k = (m - (k + 1)) + 1 by omega, List.replicate_succ, List.set_cons_zero, List.replicate_succ', List.append_assoc]
  rfl

end Go.Proofs.YthobibjbpbnhnaaDoor
