/-
  The walk of Stats; how deep a tree is.
-/
import Derived.Test.YtlgjkhdpinnccaaTst
namespace Go.Proofs.Ytlgjkhdpinnccaa
open Go.RowKit Go.Sort

theorem flatMap_len {τ : Type} (f : τ → List Ent) (k : Nat) : ∀ (ts : List τ), (∀ t ∈ ts, k ≤ (f t).length) → ts.length * k ≤ (ts.flatMap f).length
  | [], _ => by simp
  | t :: ts, h => by
    rw [List.flatMap_cons, List.length_append, List.length_cons, Nat.succ_mul]
    have h1 := h t List.mem_cons_self
    have h2 := flatMap_len f k ts fun x hx => h x (List.mem_cons_of_mem _ hx)
    omega
theorem size_le {m o : Nat} : ∀ {d : Nat} {t : T d}, Ok m o d t → m ≤ fill d t → m ^ (d + 1) ≤ (flat d t).length
  | 0, t, _, hf => by
    rw [Nat.zero_add, Nat.pow_one]
    exact hf
  | d + 1, t, h, hf => by
    have h1 := flatMap_len (flat d) (m ^ (d + 1)) t.2 fun c hc => size_le (h.2 c hc).1 (h.2 c hc).2.1
    have h2 : m ≤ t.2.length := hf
    have h3 : m * m ^ (d + 1) ≤ t.2.length * m ^ (d + 1) := Nat.mul_le_mul_right _ h2
    show m ^ (d + 2) ≤ (t.2.flatMap (flat d)).length
    rw [Nat.pow_succ, Nat.mul_comm]
    omega
theorem size_root {m o : Nat} {d : Nat} {t : T d} (h : Ok m o d t) (hr : d = 0 ∨ 2 ≤ fill d t) : d = 0 ∨ 2 * m ^ d ≤ (flat d t).length := by
  cases d with
  | zero => exact .inl rfl
  | succ d =>
    right
    have hr : 2 ≤ t.2.length := by
      rcases hr with h | h
      · cases h
      · exact h
    have h1 := flatMap_len (flat d) (m ^ (d + 1)) t.2 fun c hc => size_le (h.2 c hc).1 (h.2 c hc).2.1
    have h3 : 2 * m ^ (d + 1) ≤ t.2.length * m ^ (d + 1) := Nat.mul_le_mul_right _ hr
    show 2 * m ^ (d + 1) ≤ (t.2.flatMap (flat d)).length
    omega
theorem pow_gt (d : Nat) {m : Nat} (hm : 2 ≤ m) : d < m ^ d := Nat.lt_of_lt_of_le Nat.lt_two_pow_self (Nat.pow_le_pow_left hm d)

/-- What Stats leaves. -/
def StatsPost (w : World) (m n : Nat) (e : Ending) (w' : World) : Prop := ∃ (d : Nat) (x y : Int), e = .returned (stV n (d + 1) (d + 1) x y) ∧ (d = 0 ∨ 2 * m ^ d ≤ n) ∧ Below w.heap.size w w'

theorem ret_Stats {a b c x y : Int} {g : Nat} {w : World} (tmps : Array Value) (hp : tmps.getD 2 undef = .pointer (some ⟨g, 0, none⟩)) (hg : w.heap[g]? = some (.cells (stC a b c x y) 37 (0, 0))) :
    (results Try.f14 tmps).run Try.prog w = .ok (stV a b c x y) w :=
  results_cell_row (P := Try.prog) Try.results14 tmps w g 37 _ (0, 0) _ hp hg Try.underlying37 rfl (by kernel_rfl)

set_option maxRecDepth 100000 in
set_option maxHeartbeats 4000000 in
theorem treeStatsW {base m o tb : Nat} (hO : Order m o) {ps : List PE} (w : World) (hT : TreeAt base m o w tb ps) (hn : ps.length ≤ 1000) :
    Calls Try.prog 14 #[ptr tb] w (StatsPost w m ps.length) := by
  obtain ⟨M, O, d, a, t, fp, hT, hps⟩ := hT
  have hm2 : 2 ≤ m := by have := hO.lo; have := hO.eq; omega
  have hsz := size_root hT.ok hT.root
  rw [← hT.len] at hsz
  have hd : d ≤ 1000 := by
    rcases hsz with h | h
    · omega
    · have := pow_gt d hm2; omega
  obtain ⟨w1, hw1⟩ : ∃ w1, w1 = w.alloc (.cells (stC 0 0 0 0 0) 37) := ⟨_, rfl⟩
  have hb1 : Below w.heap.size w w1 := by rw [hw1]; exact (Below.refl _ _).alloc (Nat.le_refl _) _
  have hT1 := hT.below hb1
  have k0 : w1.heap[w.heap.size]? = some (.cells (stC 0 0 0 0 0) 37 (0, 0)) := by rw [hw1]; exact heap_alloc_new w _
  have c1 : w1.cell? ⟨tb, 1, none⟩ = some (ptr a) := by rw [cell_of_row _ _ _ _ _ _ hT1.blk]; rfl
  have c2 : w1.cell? ⟨tb, 2, none⟩ = some (.int .i64 ps.length) := by rw [cell_of_row _ _ _ _ _ _ hT1.blk]; rfl
  have HST := Lib.hid (statsW hO w1 M O hT1.store hT1.rep hT1.ok (hT1.root.imp id fun h => by omega) (by have := hO.hi; have := hT1.full; omega) hd)
  have HSZ := Lib.hid hsz
  have HW1 := Lib.hid hw1
  have HB1 := Lib.hid hb1
  have HK0 := Lib.hid k0
  have htl := hT1.lt
  have hwl : w.heap.size < w1.heap.size := by rw [hw1]; simp
  have c1' := c1
  rw [hw1] at c1'
  clear hT hps hw1 hb1 hT1 k0 hsz
  go_enter Try.func14, Try.ntmps14
  go_wp2_with fail
  rw [← HW1.out]
  refine HST.out.mono ?_
  rintro e w2 ⟨x, y, rfl, hb2⟩
  have q2 : w2.cell? ⟨tb, 2, none⟩ = some (.int .i64 ps.length) := (hb2.cell htl).trans c2
  obtain ⟨w3, hw3⟩ : ∃ w3, w3 = w2.alloc (.cells (stC 0 (d + 1) (d + 1) x y) 37) := ⟨_, rfl⟩
  have l0 : w3.heap[w.heap.size]? = some (.cells (stC 0 0 0 0 0) 37 (0, 0)) := by
    rw [hw3, Below.heap_alloc _ _ _ (Nat.lt_of_lt_of_le hwl hb2.size), hb2.block _ hwl]
    exact HK0.out
  have l1 : w3.heap[w2.heap.size]? = some (.cells (stC 0 (d + 1) (d + 1) x y) 37 (0, 0)) := by rw [hw3]; exact heap_alloc_new w2 _
  have q3 : w3.cell? ⟨tb, 2, none⟩ = some (.int .i64 ps.length) := by
    rw [hw3]
    exact (((Below.refl _ _).alloc (Nat.le_refl _) _).cell (p := ⟨tb, 2, none⟩) (Nat.lt_of_lt_of_le htl hb2.size)).trans q2
  have hbw : Below w.heap.size w w3 := by
    rw [hw3]
    exact (HB1.out.trans (hb2.mono HB1.out.size)).alloc (Nat.le_trans HB1.out.size hb2.size) _
  have a0 := cell_of_row _ _ 0 _ _ _ l1
  have a1 := cell_of_row _ _ 1 _ _ _ l1
  have a2 := cell_of_row _ _ 2 _ _ _ l1
  have a3 := cell_of_row _ _ 3 _ _ _ l1
  have a4 := cell_of_row _ _ 4 _ _ _ l1
  have b0 := cell_of_row _ _ 0 _ _ _ l0
  have b1 := cell_of_row _ _ 1 _ _ _ l0
  have b2 := cell_of_row _ _ 2 _ _ _ l0
  have b3 := cell_of_row _ _ 3 _ _ _ l0
  have b4 := cell_of_row _ _ 4 _ _ _ l0
  simp only [List.getElem?_toArray, List.getElem?_cons_succ, List.getElem?_cons_zero] at a0 a1 a2 a3 a4 b0 b1 b2 b3 b4
  have fa := fun k => frozen_of_row _ w2.heap.size k _ _ l1
  have fb := fun k => frozen_of_row _ w.heap.size k _ _ l0
  have hne : ¬ w.heap.size = w2.heap.size := by have := hb2.size; omega
  have hne2 : ¬ w2.heap.size = w.heap.size := by omega
  have HL0 := Lib.hid l0
  have HBW := Lib.hid hbw
  have HW3 := Lib.hid hw3
  have hle : w.heap.size ≤ w2.heap.size := by have := hb2.size; omega
  clear hb2 l0 l1 hw3 hbw q2 c1 c2
  go_upto_region 2 with fail
  rw [← HW3.out]
  go_wp2_with fail
  have hfin : ((((((w3.setCell ⟨w2.heap.size, 0, none⟩ (.int .i64 ps.length)).setCell ⟨w.heap.size, 0, none⟩ (.int .i64 ps.length)).setCell ⟨w.heap.size, 1, none⟩ (.int .i64 (d + 1))).setCell ⟨w.heap.size, 2, none⟩ (.int .i64 (d + 1))).setCell ⟨w.heap.size, 3, none⟩ (.int .i64 x)).setCell ⟨w.heap.size, 4, none⟩ (.int .i64 y)).heap[w.heap.size]? = some (.cells (stC ps.length (d + 1) (d + 1) x y) 37 (0, 0)) := by
    rw [heap_setCell_at (heap_setCell_at (heap_setCell_at (heap_setCell_at (heap_setCell_at ((heap_setCell_off hne _).trans HL0.out) _) _) _) _)]
    rfl
  refine bodyPost_ret (ret_Stats _ rfl hfin) rfl ?_
  exact ⟨d, x, y, rfl, HSZ.out, (((((HBW.out.setCell (p := ⟨w2.heap.size, 0, none⟩) hle _).setCell (Nat.le_refl _) _).setCell (Nat.le_refl _) _).setCell (Nat.le_refl _) _).setCell (Nat.le_refl _) _).setCell (Nat.le_refl _) _⟩
end Go.Proofs.Ytlgjkhdpinnccaa
