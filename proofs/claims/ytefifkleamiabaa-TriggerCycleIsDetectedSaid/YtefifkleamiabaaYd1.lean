/-
  A copy of an index in the making: whose its blocks are. No program's walk.
-/
import Derived.Test.YtefifkleamiabaaYd0
namespace Go.Proofs.Ytefifkleamiabaa
open Go.RowKit Go.Sort

theorem elem_keys : ElemT Try.prog 71 23 1 24 := ⟨Try.underlying71, by
  have h : (Try.prog.info? 23).map (fun i => (i.zero, i.size, i.bytes)) = some (some (.slice none 0 0), 1, 24) := by kernel_rfl
  obtain ⟨i0, hi, hz0, hz1, hz2⟩ := info_parts h
  exact ⟨i0, _, hi, hz0, hz1, hz2, rfl⟩, by omega⟩
theorem setCell_size (w : World) (p : Addr) (v : Value) : (w.setCell p v).heap.size = w.heap.size := by simp [World.setCell]
theorem heap_setCell_off {w : World} {p : Addr} {k : Nat} (h : k ≠ p.block) (v : Value) : (w.setCell p v).heap[k]? = w.heap[k]? := Below.heap_setCell w p v k h
theorem heap_setCell_at {w : World} {g i : Nat} {cur : Array Value} {e : TypeId} (h : w.heap[g]? = some (.cells cur e (0, 0))) (v : Value) : (w.setCell ⟨g, i, none⟩ v).heap[g]? = some (.cells (cur.setIfInBounds i v) e (0, 0)) := by
  unfold World.setCell
  simp only
  rw [Array.getElem?_modify, if_pos rfl, h]
  simp
theorem KOk.of {K K' : Nat → Prop} {w w' : World} {k : Key} (h : KOk K w k) (hk : ∀ i, K i → w'.heap[i]? = w.heap[i]? ∧ K' i) : KOk K' w' k := (h.keep fun i hi => (hk i hi).1).more fun i hi => (hk i hi).2
theorem Elems.of {α : Type} {sz : Nat} {cs : α → List Value} {K K' : Nat → Prop} {w w' : World} {A : Option Addr} {xs : List α} (h : Elems sz cs w K A xs) (hk : ∀ i, K i → w'.heap[i]? = w.heap[i]? ∧ K' i) : Elems sz cs w' K' A xs := (h.keep fun i hi => (hk i hi).1).more fun i hi => (hk i hi).2
theorem TOk.of {K K' : Nat → Prop} {w w' : World} {t : Tbl} (h : TOk K w t) (hk : ∀ i, K i → w'.heap[i]? = w.heap[i]? ∧ K' i) : TOk K' w' t := ⟨h.cols.of hk, h.pk.of hk⟩

def EntM.vv (e : EntM) : Value := .slice e.vals.A e.vals.row.length e.vals.c
def EntM.kv (e : EntM) : Value := .slice e.KA e.keys.length e.kc
/-- The blocks of an entry's rows. -/
def RK (lo b : Nat) (w : World) (e : EntM) (g : Nat) : Prop := lo ≤ g ∧ g < w.heap.size ∧ g ≠ b ∧ e.kv.ownBlock ≠ some g
section
variable {lo b : Nat} {w w' : World} {e : EntM}
end

section
variable {base bx : Nat} {w w' : World} {x : Ix} {R : Nat → Prop}
end
end Go.Proofs.Ytefifkleamiabaa
