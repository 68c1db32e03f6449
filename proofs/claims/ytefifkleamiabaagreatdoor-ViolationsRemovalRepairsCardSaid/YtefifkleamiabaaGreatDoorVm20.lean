/-
  BaseSchema, its constraints' block its own.
  Rows from which the violating ones are struck, plain; ApplyChanges with one delete; the closure of ViolationsRemovalRepairs.
  The walk of the law ViolationsRemovalRepairs.
-/
import Derived.Test.YtefifkleamiabaaGreatDoorVm19
namespace Go.Proofs.YtefifkleamiabaaGreatDoor
open Go.RowKit Go.Sort

/-- The base schema without constraints. -/
def bS0 (T IA IP OA OP F FC N : Option Addr) : Sc := ⟨T, 2, [bItem IA IP, bOrder OA OP], F, 1, [⟨nOrder, FC, 1, [1], nItem⟩], N, 1, []⟩
theorem own_at {α : Type} {sz : Nat} {cs : α → List Value} {e : TypeId} {base g : Nat} {w : World} {cur : Array Value} {xs : List α} (hg : w.heap[g]? = some (.cells cur e (0, 0))) (hb : base ≤ g) (hc : cur.toList = xs.flatMap cs) (hl : xs.length ≤ maxLen) (hs : cur.size = xs.length * sz) :
    Own sz cs e base w (.slice (some ⟨g, 0, none⟩) xs.length xs.length) xs := by
  refine ⟨by rw [← hc]; simpa using hs, .inr ⟨g, xs.length, cur, rfl, hb, hg, Nat.le_refl _, hl, hs, ?_⟩⟩
  rw [← hs, ← hc, ← Array.length_toList, List.take_length]

set_option maxRecDepth 100000 in
set_option maxHeartbeats 4000000 in
theorem baseSchemaO (w : World) : Calls Tryz.prog 8 #[] w fun e w' => ∃ T IA IP OA OP F FC N, e = .returned (bSc T IA IP OA OP F FC N).v ∧ ScOk (· < w'.heap.size) w' (bSc T IA IP OA OP F FC N) ∧ Below w.heap.size w w' ∧ Own 7 Cn.cs 62 w.heap.size w' (.slice N 1 1) [bCn nItem true 6] ∧ ∃ nb, N = some ⟨nb, 0, none⟩ ∧ ScOk (fun g => g < w'.heap.size ∧ g ≠ nb) w' (bS0 T IA IP OA OP F FC N) := by
  obtain ⟨w0, hw0⟩ : ∃ w0, w0 = w.alloc (.cells #[.slice none 0 0, .slice none 0 0, .slice none 0 0] 27) := ⟨_, rfl⟩
  have hb0 : Below w.heap.size w w0 := by rw [hw0]; exact (Below.refl _ _).alloc (Nat.le_refl _) _
  have hg0 : w0.heap[w.heap.size]? = some (.cells #[.slice none 0 0, .slice none 0 0, .slice none 0 0] 27 (0, 0)) := by rw [hw0]; exact heap_alloc_new w _
  have hs0 : w0.heap.size = w.heap.size + 1 := by rw [hw0]; simp
  obtain ⟨w1, hw1⟩ : ∃ w1, w1 = ((w0.alloc (.cells #[.string ⟨#[105, 100]⟩, .int .i64 1, .bool false, .string ⟨#[115, 105, 122, 101]⟩, .int .i64 1, .bool true, .string ⟨#[102, 105, 114, 115, 116]⟩, .int .i64 3, .bool false, .string ⟨#[108, 97, 115, 116]⟩, .int .i64 3, .bool false] 68)).alloc (.cells #[.int .i64 0] 3)).alloc (.cells #[.string ⟨#[105, 116, 101, 109]⟩, .slice (some ⟨w0.heap.size, 0, none⟩) 4 4, .slice (some ⟨w0.heap.size + 1, 0, none⟩) 1 1] 71) := ⟨_, rfl⟩
  obtain ⟨a0, a1, a2, a3, a4⟩ := three_new w0 (.cells #[.string ⟨#[105, 100]⟩, .int .i64 1, .bool false, .string ⟨#[115, 105, 122, 101]⟩, .int .i64 1, .bool true, .string ⟨#[102, 105, 114, 115, 116]⟩, .int .i64 3, .bool false, .string ⟨#[108, 97, 115, 116]⟩, .int .i64 3, .bool false] 68) (.cells #[.int .i64 0] 3) (.cells #[.string ⟨#[105, 116, 101, 109]⟩, .slice (some ⟨w0.heap.size, 0, none⟩) 4 4, .slice (some ⟨w0.heap.size + 1, 0, none⟩) 1 1] 71)
  rw [← hw1] at a0 a1 a2 a3 a4
  obtain ⟨w2, hw2⟩ : ∃ w2, w2 = ((w1.alloc (.cells #[.string ⟨#[105, 100]⟩, .int .i64 1, .bool false, .string ⟨#[105, 116, 101, 109]⟩, .int .i64 1, .bool true, .string ⟨#[112, 97, 105, 100]⟩, .int .i64 2, .bool false] 68)).alloc (.cells #[.int .i64 0] 3)).alloc (.cells #[.string ⟨#[111, 114, 100, 101, 114]⟩, .slice (some ⟨w1.heap.size, 0, none⟩) 3 3, .slice (some ⟨w1.heap.size + 1, 0, none⟩) 1 1] 71) := ⟨_, rfl⟩
  obtain ⟨b0, b1, b2, b3, b4⟩ := three_new w1 (.cells #[.string ⟨#[105, 100]⟩, .int .i64 1, .bool false, .string ⟨#[105, 116, 101, 109]⟩, .int .i64 1, .bool true, .string ⟨#[112, 97, 105, 100]⟩, .int .i64 2, .bool false] 68) (.cells #[.int .i64 0] 3) (.cells #[.string ⟨#[111, 114, 100, 101, 114]⟩, .slice (some ⟨w1.heap.size, 0, none⟩) 3 3, .slice (some ⟨w1.heap.size + 1, 0, none⟩) 1 1] 71)
  rw [← hw2] at b0 b1 b2 b3 b4
  obtain ⟨w3, hw3⟩ : ∃ w3, w3 = (((w2.alloc (.cells #[.string ⟨#[105, 116, 101, 109]⟩, .slice (some ⟨w0.heap.size, 0, none⟩) 4 4, .slice (some ⟨w0.heap.size + 1, 0, none⟩) 1 1, .string ⟨#[111, 114, 100, 101, 114]⟩, .slice (some ⟨w1.heap.size, 0, none⟩) 3 3, .slice (some ⟨w1.heap.size + 1, 0, none⟩) 1 1] 71)).alloc (.cells #[.int .i64 1] 3)).alloc (.cells #[.string ⟨#[111, 114, 100, 101, 114]⟩, .slice (some ⟨w2.heap.size + 1, 0, none⟩) 1 1, .string ⟨#[105, 116, 101, 109]⟩] 73)).alloc (.cells #[.string ⟨#[105, 116, 101, 109]⟩, .int .i64 1, .string ⟨#[60, 61]⟩, .int .i64 (-1), .int .i64 1, .int .i64 6, .string ⟨#[]⟩] 62) := ⟨_, rfl⟩
  obtain ⟨c0, c1, c2, c3, c4, c5⟩ := four_new w2 (.cells #[.string ⟨#[105, 116, 101, 109]⟩, .slice (some ⟨w0.heap.size, 0, none⟩) 4 4, .slice (some ⟨w0.heap.size + 1, 0, none⟩) 1 1, .string ⟨#[111, 114, 100, 101, 114]⟩, .slice (some ⟨w1.heap.size, 0, none⟩) 3 3, .slice (some ⟨w1.heap.size + 1, 0, none⟩) 1 1] 71) (.cells #[.int .i64 1] 3) (.cells #[.string ⟨#[111, 114, 100, 101, 114]⟩, .slice (some ⟨w2.heap.size + 1, 0, none⟩) 1 1, .string ⟨#[105, 116, 101, 109]⟩] 73) (.cells #[.string ⟨#[105, 116, 101, 109]⟩, .int .i64 1, .string ⟨#[60, 61]⟩, .int .i64 (-1), .int .i64 1, .int .i64 6, .string ⟨#[]⟩] 62)
  rw [← hw3] at c0 c1 c2 c3 c4 c5
  have t0 := cell_of_row _ _ 0 _ _ _ a2
  have t1 := cell_of_row _ _ 1 _ _ _ a2
  have t2 := cell_of_row _ _ 2 _ _ _ a2
  have a2' := (b3.block _ (by omega)).trans a2
  have p0 := cell_of_row _ _ 0 _ _ _ a2'
  have p1 := cell_of_row _ _ 1 _ _ _ a2'
  have p2 := cell_of_row _ _ 2 _ _ _ a2'
  have q0 := cell_of_row _ _ 0 _ _ _ b2
  have q1 := cell_of_row _ _ 1 _ _ _ b2
  have q2 := cell_of_row _ _ 2 _ _ _ b2
  have hb13 : Below w1.heap.size w1 w3 := b3.trans (c4.mono b3.size)
  have hb03 : Below w0.heap.size w0 w3 := a3.trans (hb13.mono a3.size)
  have hr3 := (hb03.block w.heap.size (by omega)).trans hg0
  have hb02 : Below w0.heap.size w0 w2 := a3.trans (b3.mono (by omega))
  have hr2 := (hb02.block w.heap.size (by omega)).trans hg0
  have hn4 : ∀ a b c d, ((((w2.alloc a).alloc b).alloc c).alloc d).heap[w.heap.size]? = some (.cells #[.slice none 0 0, .slice none 0 0, .slice none 0 0] 27 (0, 0)) := fun a b c d => ((four_new w2 a b c d).2.2.2.2.1.block _ (by omega)).trans hr2
  have n0 : ∀ a b c d, ((((w2.alloc a).alloc b).alloc c).alloc d).cell? ⟨w.heap.size, 0, none⟩ = some (.slice none 0 0) := fun a b c d => cell_of_row _ _ 0 _ _ _ (hn4 a b c d)
  have n1 : ∀ a b c d, ((((w2.alloc a).alloc b).alloc c).alloc d).cell? ⟨w.heap.size, 1, none⟩ = some (.slice none 0 0) := fun a b c d => cell_of_row _ _ 1 _ _ _ (hn4 a b c d)
  have n2 : ∀ a b c d, ((((w2.alloc a).alloc b).alloc c).alloc d).cell? ⟨w.heap.size, 2, none⟩ = some (.slice none 0 0) := fun a b c d => cell_of_row _ _ 2 _ _ _ (hn4 a b c d)
  have f0 : ∀ a b c d i, ((((w2.alloc a).alloc b).alloc c).alloc d).frozen? ⟨w.heap.size, i, none⟩ = false := fun a b c d i => frozen_of_row _ _ i _ _ (hn4 a b c d)
  have HFIN : Hid (∀ v0 v1 v2, ScOk (· < w3.heap.size) (((w3.setCell ⟨w.heap.size, 0, none⟩ v0).setCell ⟨w.heap.size, 1, none⟩ v1).setCell ⟨w.heap.size, 2, none⟩ v2) (bSc (some ⟨w2.heap.size, 0, none⟩) (some ⟨w0.heap.size, 0, none⟩) (some ⟨w0.heap.size + 1, 0, none⟩) (some ⟨w1.heap.size, 0, none⟩) (some ⟨w1.heap.size + 1, 0, none⟩) (some ⟨w2.heap.size + 1 + 1, 0, none⟩) (some ⟨w2.heap.size + 1, 0, none⟩) (some ⟨w2.heap.size + 1 + 1 + 1, 0, none⟩))) := Lib.hid fun v0 v1 v2 => by
    have hsc : ScOk (fun g => w.heap.size < g ∧ g < w3.heap.size) w3 (bSc (some ⟨w2.heap.size, 0, none⟩) (some ⟨w0.heap.size, 0, none⟩) (some ⟨w0.heap.size + 1, 0, none⟩) (some ⟨w1.heap.size, 0, none⟩) (some ⟨w1.heap.size + 1, 0, none⟩) (some ⟨w2.heap.size + 1 + 1, 0, none⟩) (some ⟨w2.heap.size + 1, 0, none⟩) (some ⟨w2.heap.size + 1 + 1 + 1, 0, none⟩)) := by
      refine ⟨(elems_block tblLay (xs := (bSc (some ⟨w2.heap.size, 0, none⟩) (some ⟨w0.heap.size, 0, none⟩) (some ⟨w0.heap.size + 1, 0, none⟩) (some ⟨w1.heap.size, 0, none⟩) (some ⟨w1.heap.size + 1, 0, none⟩) (some ⟨w2.heap.size + 1 + 1, 0, none⟩) (some ⟨w2.heap.size + 1, 0, none⟩) (some ⟨w2.heap.size + 1 + 1 + 1, 0, none⟩)).tabs) c0 rfl (by show 2 ≤ maxLen; decide) rfl).more fun g hg => ⟨by omega, by omega⟩, fun t ht => ?_, (elems_block fkLay (xs := [⟨nOrder, some ⟨w2.heap.size + 1, 0, none⟩, 1, [1], nItem⟩]) c2 rfl (by show 1 ≤ maxLen; decide) rfl).more fun g hg => ⟨by omega, by omega⟩, fun f hf => ?_, (elems_block cnLay (xs := [⟨nItem, 1, ⟨#[60, 61]⟩, -1, ⟨1, 6, ⟨#[]⟩⟩⟩]) c3 rfl (by show 1 ≤ maxLen; decide) rfl).more fun g hg => ⟨by omega, by omega⟩⟩
      · simp only [bSc, List.mem_cons, List.not_mem_nil, or_false] at ht
        rcases ht with rfl | rfl
        · exact ⟨(elems_block colLay (xs := itemCols) ((hb13.block _ (by omega)).trans a0) rfl (by decide) rfl).more fun g hg => ⟨by omega, by omega⟩, (elems_block intLay (xs := [0]) ((hb13.block _ (by omega)).trans a1) rfl (by decide) rfl).more fun g hg => ⟨by omega, by omega⟩⟩
        · exact ⟨(elems_block colLay (xs := orderCols) ((c4.block _ (by omega)).trans b0) rfl (by decide) rfl).more fun g hg => ⟨by omega, by omega⟩, (elems_block intLay (xs := [0]) ((c4.block _ (by omega)).trans b1) rfl (by decide) rfl).more fun g hg => ⟨by omega, by omega⟩⟩
      · simp only [bSc, List.mem_cons, List.not_mem_nil, or_false] at hf
        subst hf
        exact (elems_block intLay (xs := [1]) c1 rfl (by decide) rfl).more fun g hg => ⟨by omega, by omega⟩
    refine (hsc.keep fun g hg => ?_).more fun g hg => hg.2
    rw [Below.heap_setCell _ _ _ _ (by show g ≠ w.heap.size; omega), Below.heap_setCell _ _ _ _ (by show g ≠ w.heap.size; omega), Below.heap_setCell _ _ _ _ (by show g ≠ w.heap.size; omega)]
  have HFN : Hid (∀ v0 v1 v2, ScOk (fun g => g < w3.heap.size ∧ g ≠ w2.heap.size + 1 + 1 + 1) (((w3.setCell ⟨w.heap.size, 0, none⟩ v0).setCell ⟨w.heap.size, 1, none⟩ v1).setCell ⟨w.heap.size, 2, none⟩ v2) (bS0 (some ⟨w2.heap.size, 0, none⟩) (some ⟨w0.heap.size, 0, none⟩) (some ⟨w0.heap.size + 1, 0, none⟩) (some ⟨w1.heap.size, 0, none⟩) (some ⟨w1.heap.size + 1, 0, none⟩) (some ⟨w2.heap.size + 1 + 1, 0, none⟩) (some ⟨w2.heap.size + 1, 0, none⟩) (some ⟨w2.heap.size + 1 + 1 + 1, 0, none⟩))) := Lib.hid fun v0 v1 v2 => by
    have hsc : ScOk (fun g => w.heap.size < g ∧ g < w3.heap.size ∧ g ≠ w2.heap.size + 1 + 1 + 1) w3 (bS0 (some ⟨w2.heap.size, 0, none⟩) (some ⟨w0.heap.size, 0, none⟩) (some ⟨w0.heap.size + 1, 0, none⟩) (some ⟨w1.heap.size, 0, none⟩) (some ⟨w1.heap.size + 1, 0, none⟩) (some ⟨w2.heap.size + 1 + 1, 0, none⟩) (some ⟨w2.heap.size + 1, 0, none⟩) (some ⟨w2.heap.size + 1 + 1 + 1, 0, none⟩)) := by
      refine ⟨(elems_block tblLay (xs := (bS0 (some ⟨w2.heap.size, 0, none⟩) (some ⟨w0.heap.size, 0, none⟩) (some ⟨w0.heap.size + 1, 0, none⟩) (some ⟨w1.heap.size, 0, none⟩) (some ⟨w1.heap.size + 1, 0, none⟩) (some ⟨w2.heap.size + 1 + 1, 0, none⟩) (some ⟨w2.heap.size + 1, 0, none⟩) (some ⟨w2.heap.size + 1 + 1 + 1, 0, none⟩)).tabs) c0 rfl (by show 2 ≤ maxLen; decide) rfl).more fun g hg => ⟨by omega, by omega, by omega⟩, fun t ht => ?_, (elems_block fkLay (xs := [⟨nOrder, some ⟨w2.heap.size + 1, 0, none⟩, 1, [1], nItem⟩]) c2 rfl (by show 1 ≤ maxLen; decide) rfl).more fun g hg => ⟨by omega, by omega, by omega⟩, fun f hf => ?_, fun h => absurd h (Nat.not_lt_zero _)⟩
      · simp only [bS0, List.mem_cons, List.not_mem_nil, or_false] at ht
        rcases ht with rfl | rfl
        · exact ⟨(elems_block colLay (xs := itemCols) ((hb13.block _ (by omega)).trans a0) rfl (by decide) rfl).more fun g hg => ⟨by omega, by omega, by omega⟩, (elems_block intLay (xs := [0]) ((hb13.block _ (by omega)).trans a1) rfl (by decide) rfl).more fun g hg => ⟨by omega, by omega, by omega⟩⟩
        · exact ⟨(elems_block colLay (xs := orderCols) ((c4.block _ (by omega)).trans b0) rfl (by decide) rfl).more fun g hg => ⟨by omega, by omega, by omega⟩, (elems_block intLay (xs := [0]) ((c4.block _ (by omega)).trans b1) rfl (by decide) rfl).more fun g hg => ⟨by omega, by omega, by omega⟩⟩
      · simp only [bS0, List.mem_cons, List.not_mem_nil, or_false] at hf
        subst hf
        exact (elems_block intLay (xs := [1]) c1 rfl (by decide) rfl).more fun g hg => ⟨by omega, by omega, by omega⟩
    refine (hsc.keep fun g hg => ?_).more fun g hg => hg.2
    rw [Below.heap_setCell _ _ _ _ (by show g ≠ w.heap.size; omega), Below.heap_setCell _ _ _ _ (by show g ≠ w.heap.size; omega), Below.heap_setCell _ _ _ _ (by show g ≠ w.heap.size; omega)]
  have HB : Hid (Below w.heap.size w w3) := Lib.hid (hb0.trans (hb03.mono hb0.size))
  have HR3 := Lib.hid hr3
  have HOW : Hid (∀ v0 v1 v2, Own 7 Cn.cs 62 w.heap.size (((w3.setCell ⟨w.heap.size, 0, none⟩ v0).setCell ⟨w.heap.size, 1, none⟩ v1).setCell ⟨w.heap.size, 2, none⟩ v2) (.slice (some ⟨w2.heap.size + 1 + 1 + 1, 0, none⟩) 1 1) [bCn nItem true 6]) := Lib.hid fun v0 v1 v2 => by
    refine own_at (xs := [bCn nItem true 6]) ?_ (by have := hb02.size; omega) rfl (by decide) rfl
    rw [Below.heap_setCell _ _ _ _ (by show w2.heap.size + 1 + 1 + 1 ≠ w.heap.size; have := hb02.size; omega), Below.heap_setCell _ _ _ _ (by show w2.heap.size + 1 + 1 + 1 ≠ w.heap.size; have := hb02.size; omega), Below.heap_setCell _ _ _ _ (by show w2.heap.size + 1 + 1 + 1 ≠ w.heap.size; have := hb02.size; omega)]
    exact c3
  have HW0 := Lib.hid hw0
  have HW1 := Lib.hid hw1
  have HW2 := Lib.hid hw2
  have HW3 := Lib.hid hw3
  clear hw0 hw1 hw2 hw3 hb0 hg0 hs0 a0 a1 a2 a2' a3 a4 b0 b1 b2 b3 b4 c0 c1 c2 c3 c4 c5 hb13 hb03 hr3 hn4
  go_enter Tryz.func8, Tryz.ntmps8
  go_upto_region 1 with fail
  rw [← HW0.out]
  go_upto_region 2 with fail
  rw [← HW1.out]
  go_upto_region 3 with fail
  rw [← HW2.out]
  go_wp2_with fail
  rw [← HW3.out]
  refine bodyPost_ret (ret_base _ rfl (set3 HR3.out)) rfl ?_
  exact ⟨_, _, _, _, _, _, _, _, rfl, (HFIN.out _ _ _).more fun g hg => by simpa [World.setCell] using hg, ((HB.out.setCell (p := ⟨w.heap.size, 0, none⟩) (Nat.le_refl _) _).setCell (p := ⟨w.heap.size, 1, none⟩) (Nat.le_refl _) _).setCell (p := ⟨w.heap.size, 2, none⟩) (Nat.le_refl _) _, HOW.out _ _ _, _, rfl, (HFN.out _ _ _).more fun g hg => ⟨by simpa [World.setCell] using hg.1, hg.2⟩⟩

end Go.Proofs.YtefifkleamiabaaGreatDoor

namespace Go.Proofs.YtefifkleamiabaaGreatDoor
open Go.RowKit Go.Sort

structure Strk (R0 R : Nat → List Row) (done : List Vio) : Prop where
  bg : BG R
  sub : ∀ r ∈ R 0, r ∈ R0 0
  no : ∀ x ∈ done, x.err = 11 → ∀ r ∈ R 0, keyOf [0] r ≠ x.key.row
section
variable {R0 R : Nat → List Row} {done : List Vio} {x : Vio} {d : Nat}
theorem Strk.skip (h : Strk R0 R done) (hx : x.err ≠ 11) : Strk R0 R (done ++ [x]) := ⟨h.bg, h.sub, fun y hy he => by
  rcases List.mem_append.1 hy with hy | hy
  · exact h.no y hy he
  · rw [List.mem_singleton.1 hy] at he
    exact absurd he hx⟩
theorem key_ne {cols : List Col} {r : Row} (hr : RG cols r) (hd : dgK [0] r ≠ d) : keyOf [0] r ≠ ik (d : Int) := fun e => by
  rw [hr.key] at e
  have h1 := List.cons.inj e
  have h2 := congrArg Val.int h1.1
  have h3 : (dgK [0] r : Int) = (d : Int) := h2
  omega
theorem Strk.del (h : Strk R0 R done) (hk : x.key.row = ik (d : Int)) {Rs : Nat → List Row} (hbg : BG Rs) (hp : (Rs 0).Perm (dlB R 0 d 0)) : Strk R0 Rs (done ++ [x]) := by
  have hm : ∀ r ∈ Rs 0, r ∈ R 0 ∧ dgK [0] r ≠ d := fun r hr => by
    have := hp.mem_iff.1 hr
    unfold dlB upR at this
    rw [if_pos rfl, List.append_nil] at this
    have h2 := List.mem_filter.1 this
    exact ⟨h2.1, by simpa using h2.2⟩
  refine ⟨hbg, fun r hr => h.sub r (hm r hr).1, fun y hy he r hr => ?_⟩
  rcases List.mem_append.1 hy with hy | hy
  · exact h.no y hy he r (hm r hr).1
  · rw [List.mem_singleton.1 hy, hk]
    exact key_ne (h.bg.row 0 (by omega) r (hm r hr).1) (hm r hr).2
theorem Strk.stay (h : Strk R0 R done) (hk : x.key.row = ik (d : Int)) (hst : (upR [0] d [] (R 0)).length = (R 0).length) : Strk R0 R (done ++ [x]) := by
  refine ⟨h.bg, h.sub, fun y hy he r hr => ?_⟩
  rcases List.mem_append.1 hy with hy | hy
  · exact h.no y hy he r hr
  · rw [List.mem_singleton.1 hy, hk]
    refine key_ne (h.bg.row 0 (by omega) r hr) ?_
    unfold upR at hst
    rw [List.append_nil] at hst
    have := List.length_filter_eq_length_iff.1 hst r hr
    simpa using this
theorem Strk.end_ {vs : List Vio} {ds : List (Int × Int × Row)} {Q : Nat → Row → Bool} {n : Nat} (h : Strk R0 R vs) (hd : vs.map Vio.d = ds ++ vioD 11 Q (fun _ => R0 0) n) : vioD 11 Q (fun _ => R 0) n = [] := by
  unfold vioD
  rw [List.flatMap_eq_nil_iff]
  intro i hi
  unfold vioR
  rw [List.map_eq_nil_iff, List.filter_eq_nil_iff]
  intro r hr hq
  have hmem : ((11 : Int), (i : Int), keyOf [0] r) ∈ vs.map Vio.d := by
    rw [hd]
    refine List.mem_append_right _ ?_
    unfold vioD
    refine List.mem_flatMap.2 ⟨i, hi, ?_⟩
    unfold vioR
    exact List.mem_map.2 ⟨r, List.mem_filter.2 ⟨h.sub r hr, hq⟩, rfl⟩
  obtain ⟨x, hx, he⟩ := List.mem_map.1 hmem
  have h1 : x.err = 11 := congrArg Prod.fst he
  have h2 : x.key.row = keyOf [0] r := congrArg (fun p => p.2.2) he
  exact h.no x hx h1 r hr h2.symm
end

/-- One delete. -/
def DelAns (W : World) (R0 R : Nat → List Row) (done : List Vio) (x : Vio) (e : Ending) (w' : World) : Prop :=
  Below W.heap.size W w' ∧ ((∃ v' Rs, e = .returned (.tuple #[v', .int .i64 0]) ∧ InB Rs w' v' ∧ Strk R0 Rs (done ++ [x])) ∨ (e = .returned (.tuple #[.slice none 0 0, .int .i64 9]) ∧ Strk R0 R (done ++ [x])))
theorem applyDelV {T IA IP OA OP F FC N : Option Addr} {nc : Nat} (hc : 2 ≤ nc) (R0 R : Nat → List Row) (done : List Vio) (x : Vio) (d : Nat) (v : Value) (W : World) (hs : ScOk (· < W.heap.size) W (bS2 T IA IP OA OP F FC N nc)) (hi : InB R W v) (hR : Strk R0 R done) (hk : x.key.row = ik (d : Int)) (hd : d < 8) (ho : KOk (· < W.heap.size) W x.key) :
    Calls Tryz.prog 11 #[.agg #[.slice T 2 2, .slice F 1 1, .slice N 2 nc], v, .slice (some ⟨W.heap.size, 0, none⟩) 1 1] (W.alloc (.cells #[.int .i64 2, .string nItem, .slice x.key.A x.key.row.length x.key.c, .slice none 0 0] 51)) (DelAns W R0 R done x) := by
  have ha : Below W.heap.size W (W.alloc (.cells #[.int .i64 2, .string nItem, .slice x.key.A x.key.row.length x.key.c, .slice none 0 0] 51)) := (Below.refl _ _).alloc (Nat.le_refl _) _
  have hel : Elems 4 ChM.cs (W.alloc (.cells #[.int .i64 2, .string nItem, .slice x.key.A x.key.row.length x.key.c, .slice none 0 0] 51)) (fun g => g = W.heap.size) (some ⟨W.heap.size, 0, none⟩) [⟨2, nItem, x.key, ⟨none, 0, []⟩⟩] := elems_block chLay (heap_alloc_new W _) rfl (by show 1 ≤ maxLen; decide) rfl
  have hkk : kkOf ⟨2, nItem, x.key, ⟨none, 0, []⟩⟩ = d := by
    unfold kkOf
    rw [if_neg (by show ¬ (2 : Int) = 1; decide)]
    show ((x.key.row).headD ⟨0, 0, ⟨#[]⟩⟩).int.toNat = d
    rw [hk]
    rfl
  have htt : tiOf ⟨2, nItem, x.key, ⟨none, 0, []⟩⟩ = 0 := rfl
  have hfit : FitB ⟨2, nItem, x.key, ⟨none, 0, []⟩⟩ := ⟨⟨rfl, by rw [htt]; decide⟩, .inr ⟨rfl, rfl, by rw [hkk]; exact hk, by rw [hkk]; exact hd⟩⟩
  refine (rApplyB (bS2 T IA IP OA OP F FC N nc) v _ 1 [⟨2, nItem, x.key, ⟨none, 0, []⟩⟩] R _ (hs.on ha) ⟨IA, IP, OA, OP, rfl⟩ (fun W2 h2 => rValidateSchemaG _ W2 ((hs.on ha).on h2) (bS2_ref hc)) (hi.on ha) hR.bg (hel.more fun g hg => by rw [hg]; simp) (fun c hc => by rw [List.mem_singleton.1 hc]; exact ⟨ho.on ha, kOk_nil⟩) (by show 1 ≤ 24; omega) (fun c hc => by rw [List.mem_singleton.1 hc]; exact hfit)).mono ?_
  rintro e w' ⟨hb, ⟨R', Rs, v', hrun, rfl, hin, hbg, hp⟩ | ⟨hno, rfl⟩⟩
  · refine ⟨ha.trans (hb.mono ha.size), .inl ⟨v', Rs, rfl, hin, hR.del hk hbg ?_⟩⟩
    unfold runB at hrun
    split at hrun
    · cases hrun
    · unfold runB at hrun
      have e1 := Option.some.inj hrun
      have h0 := hp 0 (by omega)
      rw [← e1] at h0
      unfold stepB at h0
      rw [htt, hkk] at h0
      exact h0
  · refine ⟨ha.trans (hb.mono ha.size), .inr ⟨rfl, ?_⟩⟩
    unfold runB at hno
    split at hno
    · rename_i hst
      have h2 := hst.2
      rw [htt, hkk] at h2
      exact hR.stay hk h2
    · unfold runB at hno
      cases hno

set_option maxRecDepth 100000 in
theorem repairs1 (x : Vio) (w : World) : Calls Tryz.prog 22 #[x.vv] w fun e w' => e = .returned (.bool (x.err == 11)) ∧ Below w.heap.size w w' := by
  have HB : Hid (∀ a, Below w.heap.size w (w.alloc a)) := Lib.hid fun a => (Below.refl _ _).alloc (Nat.le_refl _) a
  unfold Vio.vv
  go_enter Tryz.func22, Tryz.ntmps22
  go_wp2_with fail
  go_ret
  exact ⟨rfl, HB.out _⟩
end Go.Proofs.YtefifkleamiabaaGreatDoor

namespace Go.Proofs.YtefifkleamiabaaGreatDoor
open Go.RowKit Go.Sort

theorem elem_cns : ElemT Tryz.prog 25 62 7 80 := ⟨Tryz.underlying25, by
  have h : (Tryz.prog.info? 62).map (fun i => (i.zero, i.size, i.bytes)) = some (some (.agg #[.string ByteArray.empty, .int .i64 0, .string ByteArray.empty, .int .i64 0, .int .i64 0, .int .i64 0, .string ByteArray.empty]), 7, 80) := by kernel_rfl
  obtain ⟨i0, hi, hz0, hz1, hz2⟩ := info_parts h
  exact ⟨i0, _, hi, hz0, hz1, hz2, rfl⟩, by omega⟩

/-- One upsert of an item, at the schema with two constraints. -/
theorem applyUpV {T IA IP OA OP F FC N : Option Addr} {nc : Nat} (hc : 2 ≤ nc) (R : Nat → List Row) (v : Value) (B : Option Addr) (a b : Nat) (ha7 : a < 7) (hb7 : b < 7) (W : World) (hs : ScOk (· < W.heap.size) W (bS2 T IA IP OA OP F FC N nc)) (hi : InB R W v) (hR : BG R) (ho : KOk (· < W.heap.size) W ⟨B, 4, iRow (a : Int) (b : Int)⟩) :
    Calls Tryz.prog 11 #[.agg #[.slice T 2 2, .slice F 1 1, .slice N 2 nc], v, .slice (some ⟨W.heap.size, 0, none⟩) 1 1] (W.alloc (.cells #[.int .i64 1, .string nItem, .slice none 0 0, .slice B 4 4] 51)) fun e w' => ∃ v' R', e = .returned (.tuple #[v', .int .i64 0]) ∧ InB R' w' v' ∧ BG R' ∧ iRow (a : Int) (b : Int) ∈ R' 0 ∧ Below W.heap.size W w' := by
  have ha : Below W.heap.size W (W.alloc (.cells #[.int .i64 1, .string nItem, .slice none 0 0, .slice B 4 4] 51)) := (Below.refl _ _).alloc (Nat.le_refl _) _
  have hel : Elems 4 ChM.cs (W.alloc (.cells #[.int .i64 1, .string nItem, .slice none 0 0, .slice B 4 4] 51)) (fun g => g = W.heap.size) (some ⟨W.heap.size, 0, none⟩) [⟨1, nItem, ⟨none, 0, []⟩, ⟨B, 4, iRow (a : Int) (b : Int)⟩⟩] := elems_block chLay (heap_alloc_new W _) rfl (by show 1 ≤ maxLen; decide) rfl
  have htt : tiOf ⟨1, nItem, ⟨none, 0, []⟩, ⟨B, 4, iRow (a : Int) (b : Int)⟩⟩ = 0 := rfl
  refine (rApplyB (bS2 T IA IP OA OP F FC N nc) v _ 1 [⟨1, nItem, ⟨none, 0, []⟩, ⟨B, 4, iRow (a : Int) (b : Int)⟩⟩] R _ (hs.on ha) ⟨IA, IP, OA, OP, rfl⟩ (fun W2 h2 => rValidateSchemaG _ W2 ((hs.on ha).on h2) (bS2_ref hc)) (hi.on ha) hR (hel.more fun g hg => by rw [hg]; simp) (fun c hc => by rw [List.mem_singleton.1 hc]; exact ⟨kOk_nil, ho.on ha⟩) (by show 1 ≤ 24; omega) (fun c hc => by rw [List.mem_singleton.1 hc]; exact fit_item ha7 hb7)).mono ?_
  have hst : ¬ stopB ⟨1, nItem, ⟨none, 0, []⟩, ⟨B, 4, iRow (a : Int) (b : Int)⟩⟩ R := fun h => by have h1 : (1 : Int) = 2 := h.1; omega
  rintro e w' ⟨hb, ⟨R', Rs, v', hrun, rfl, hin, hbg, hp⟩ | ⟨hno, -⟩⟩
  · refine ⟨v', Rs, rfl, hin, hbg, ?_, ha.trans (hb.mono ha.size)⟩
    unfold runB at hrun
    rw [if_neg hst] at hrun
    unfold runB at hrun
    have e1 := Option.some.inj hrun
    have h0 := hp 0 (by omega)
    rw [← e1] at h0
    refine h0.mem_iff.2 ?_
    unfold stepB stepR
    rw [htt, if_pos rfl]
    unfold upR newR
    rw [if_pos rfl]
    exact List.mem_append_right _ (by simp)
  · unfold runB at hno
    rw [if_neg hst] at hno
    unfold runB at hno
    cases hno
/-- The schema's box. -/
def SBx (B : Nat) (T F N : Option Addr) (nc : Nat) (W : World) : Prop := W.cell? ⟨B, 0, none⟩ = some (.slice T 2 2) ∧ W.cell? ⟨B, 1, none⟩ = some (.slice F 1 1) ∧ W.cell? ⟨B, 2, none⟩ = some (.slice N 2 nc)
def RpK2 (w5 : World) (S : World → Prop) (sv v4 : Value) (g : Nat) (e : Ending) (w7 : World) : Prop :=
  e = .returned (.slice (some ⟨g, 0, none⟩) 4 4) ∧ (S w7 ∧ ∀ o, S (w7.alloc o)) ∧ Hid (Calls Tryz.prog 11 #[sv, v4, .slice (some ⟨w7.heap.size, 0, none⟩) 1 1] (w7.alloc (.cells #[.int .i64 1, .string ⟨#[105, 116, 101, 109]⟩, .slice none 0 0, .slice (some ⟨g, 0, none⟩) 4 4] 51)) fun e w8 => ∃ v8 R8, e = .returned (.tuple #[v8, .int .i64 0]) ∧ S w8 ∧ InB R8 w8 v8 ∧ BG R8 ∧ iRow 0 5 ∈ R8 0 ∧ Below w5.heap.size w5 w8)
def RpK1 (w5 : World) (S : World → Prop) (sv : Value) (e : Ending) (w6 : World) : Prop :=
  ∃ v4, e = .returned v4 ∧ S w6 ∧ Hid (Calls Tryz.prog 16 #[.int .i64 0, .int .i64 5] w6 (RpK2 w5 S sv v4 w6.heap.size))
/-- Each violation's key is a digit. -/
theorem vio_key {R : Nat → List Row} (hR : BG R) {n : Nat} {P : Nat → Row → Bool} {vs : List Vio} (hd : vs.map Vio.d = vioD 10 (fun _ r => refOk (R 0) r) (fun _ => R 1) 1 ++ vioD 11 P (fun _ => R 0) n) {x : Vio} (hx : x ∈ vs) : ∃ d : Nat, d < 8 ∧ x.key.row = ik (d : Int) := by
  have h1 : x.d ∈ vioD 10 (fun _ r => refOk (R 0) r) (fun _ => R 1) 1 ++ vioD 11 P (fun _ => R 0) n := by rw [← hd]; exact List.mem_map_of_mem hx
  have hk : ∀ (err : Int) (Q : Nat → Row → Bool) (j m : Nat), j < 2 → x.d ∈ vioD err Q (fun _ => R j) m → ∃ d : Nat, d < 8 ∧ x.key.row = ik (d : Int) := fun err Q j m hj h => by
    unfold vioD at h
    obtain ⟨i, -, h2⟩ := List.mem_flatMap.1 h
    unfold vioR at h2
    obtain ⟨r, hr, he⟩ := List.mem_map.1 h2
    have hr' := hR.row j hj r (List.mem_filter.1 hr).1
    have h3 : keyOf [0] r = x.key.row := congrArg (fun p => p.2.2) he
    exact ⟨dgK [0] r, hr'.dig, by rw [← h3]; exact hr'.key⟩
  rcases List.mem_append.1 h1 with h | h
  · exact hk _ _ 1 _ (by omega) h
  · exact hk _ _ 0 _ (by omega) h
theorem vio_some {R : Nat → List Row} (hm : iRow 0 5 ∈ R 0) {ds : List (Int × Int × Row)} {vs : List Vio} (hd : vs.map Vio.d = ds ++ vioD 11 (szOk [(true, 6), (false, 3)]) (fun _ => R 0) 2) : 0 < vs.length := by
  have hmem : ((11 : Int), ((1 : Nat) : Int), keyOf [0] (iRow 0 5)) ∈ vs.map Vio.d := by
    rw [hd]
    refine List.mem_append_right _ ?_
    unfold vioD
    refine List.mem_flatMap.2 ⟨1, List.mem_range.2 (by omega), ?_⟩
    unfold vioR
    exact List.mem_map.2 ⟨_, List.mem_filter.2 ⟨hm, by decide +kernel⟩, rfl⟩
  obtain ⟨x, hx, -⟩ := List.mem_map.1 hmem
  exact List.length_pos_of_mem hx
theorem vio_ten {R : Nat → List Row} {Q : Nat → Row → Bool} {n : Nat} {vs : List Vio} (hd : vs.map Vio.d = vioD 10 Q (fun _ => R 1) n ++ []) : (vs.any fun x => x.err == 11) = false := by
  rw [List.any_eq_false]
  intro x hx he
  have h1 : x.d ∈ vioD 10 Q (fun _ => R 1) n ++ [] := by rw [← hd]; exact List.mem_map_of_mem hx
  rw [List.append_nil] at h1
  unfold vioD at h1
  obtain ⟨i, -, h2⟩ := List.mem_flatMap.1 h1
  unfold vioR at h2
  obtain ⟨r, -, h3⟩ := List.mem_map.1 h2
  have h4 : (10 : Int) = x.err := congrArg Prod.fst h3
  have h5 : x.err = 11 := by simpa using he
  omega
/-- Find at the schema with two constraints. -/
theorem find2 {T IA IP OA OP F FC N : Option Addr} {nc : Nat} (hc : 2 ≤ nc) (R : Nat → List Row) (v : Value) (W : World) (hs : ScOk (· < W.heap.size) W (bS2 T IA IP OA OP F FC N nc)) (hi : InB R W v) (hR : BG R) :
    Calls Tryz.prog 19 #[.agg #[.slice T 2 2, .slice F 1 1, .slice N 2 nc], v] W (FindAns W (vioD 10 (fun _ r => refOk (R 0) r) (fun _ => R 1) 1 ++ vioD 11 (szOk [(true, 6), (false, 3)]) (fun _ => R 0) 2)) := by
  obtain ⟨A, c, A0, c0, k0, A1, c1, k1, rfl, hin, e0, e1⟩ := hi
  exact findB bS2_sc W hs hin hR e0 e1 fun W' hW => bS2_validate hc W' (hs.on hW)
/-- Behind the first ApplyChanges. -/
def RpCut (w5 : World) (v4 v5 : Value) (wx : World) : Prop := v5 = .int .i64 0 ∧ ∃ R8, InB R8 wx v4 ∧ BG R8 ∧ iRow 0 5 ∈ R8 0 ∧ Below w5.heap.size w5 wx
theorem rpk {T IA IP OA OP F FC N : Option Addr} {nc B : Nat} (hc : 2 ≤ nc) {w5 : World} {sl : Value} (hbox : ∀ W, Below w5.heap.size w5 W → SBx B T F N nc W) (hs : ScOk (· < w5.heap.size) w5 (bS2 T IA IP OA OP F FC N nc)) (hb : ∀ W, Below w5.heap.size w5 W → Calls Tryz.prog 9 #[sl] W (BaseAns W)) (m : Nat) :
    Calls Tryz.prog 9 #[sl] (w5.drewN m) (RpK1 w5 (SBx B T F N nc) (.agg #[.slice T 2 2, .slice F 1 1, .slice N 2 nc])) := by
  have hd : Below w5.heap.size w5 (w5.drewN m) := below_drewN (Below.refl _ _) m
  refine (hb _ hd).mono ?_
  rintro e w6 ⟨R, v4, rfl, hbg, hin, hb6⟩
  have hb56 := hd.trans (hb6.mono hd.size)
  refine ⟨v4, rfl, hbox w6 hb56, Lib.hid ?_⟩
  refine (itemRowW 0 5 w6 (by unfold I64; omega) (by unfold I64; omega)).mono ?_
  rintro e w7 ⟨rfl, hel, hb7, hs7⟩
  have hb57 := hb56.trans (hb7.mono hb56.size)
  refine ⟨rfl, ⟨hbox w7 hb57, fun o => hbox _ (hb57.alloc hb57.size o)⟩, Lib.hid ?_⟩
  have hrow : KOk (· < w7.heap.size) w7 ⟨some ⟨w6.heap.size, 0, none⟩, 4, iRow (0 : Nat) (5 : Nat)⟩ := ⟨hel.more fun g hg => by omega, by show 4 ≤ 12; decide⟩
  refine (applyUpV hc R v4 (some ⟨w6.heap.size, 0, none⟩) 0 5 (by omega) (by omega) w7 (hs.on hb57) (hin.on hb7) hbg hrow).mono ?_
  rintro e w8 ⟨v8, R8, rfl, hin8, hbg8, hm8, hb8⟩
  have hb58 := hb57.trans (hb8.mono hb57.size)
  exact ⟨v8, R8, rfl, hbox w8 hb58, hin8, hbg8, hm8, hb58⟩

set_option maxRecDepth 100000 in
set_option maxHeartbeats 8000000 in
theorem repairs_law (A : Option Addr) (c : Nat) (xs : List Int) (w : World) (hx : Elems 1 intCs w (· < w.heap.size) A xs) (hl : xs.length ≤ c) (hok : ∀ x ∈ xs, I64 x) (hsz : xs.length * 8 ≤ reachBytes) :
    Calls Tryz.prog 7 #[.slice A xs.length c] w fun e w' => e = .returned (.bool true) ∧ Below w.heap.size w w' := by
  have hrb : reachBytes ≤ 140737488355320 := by decide
  have HBI0 : Hid (∀ W, Below w.heap.size w W → Calls Tryz.prog 9 #[.slice A xs.length c] W (BaseAns W)) := Lib.hid fun W hW => baseInstanceW A c xs W (hx.of fun g hg => ⟨hW.block g hg, Nat.lt_of_lt_of_le hg hW.size⟩) hok (by omega) hl
  generalize xs.length = N0 at *
  clear hx hok hsz hrb hl
  go_enter Tryz.func7, Tryz.ntmps7
  go_wp2_with fail
  refine (baseSchemaO w).mono ?_
  rintro e w1 ⟨T, IA, IP, OA, OP, F, FC, N2, rfl, -, hb1, ho1, nb, hN2, hs1⟩
  subst hN2
  rw [show (bSc T IA IP OA OP F FC (some ⟨nb, 0, none⟩)).v = .agg #[.slice T 2 2, .slice F 1 1, .slice (some ⟨nb, 0, none⟩) 1 1] from rfl]
  obtain ⟨w2, hw2⟩ : ∃ w2, w2 = w1.alloc (.cells #[.slice T 2 2, .slice F 1 1, .slice (some ⟨nb, 0, none⟩) 1 1] 27) := ⟨_, rfl⟩
  have hb2 : Below w1.heap.size w1 w2 := by rw [hw2]; exact (Below.refl _ _).alloc (Nat.le_refl _) _
  have hg2 : w2.heap[w1.heap.size]? = some (.cells #[.slice T 2 2, .slice F 1 1, .slice (some ⟨nb, 0, none⟩) 1 1] 27 (0, 0)) := by rw [hw2]; exact heap_alloc_new w1 _
  have hs2 : w1.heap.size < w2.heap.size := by rw [hw2]; simp
  have x0 := cell_of_row _ _ 0 _ _ _ hg2
  have x1 := cell_of_row _ _ 1 _ _ _ hg2
  have x2 := cell_of_row _ _ 2 _ _ _ hg2
  have f2 := frozen_of_row _ _ 2 _ _ hg2
  have HO : Hid (Own 7 Cn.cs 62 w.heap.size w2 (.slice (some ⟨nb, 0, none⟩) 1 1) [bCn nItem true 6] ∧ w.heap.size ≤ w2.heap.size) := Lib.hid ⟨ho1.below hb2, Nat.le_trans hb1.size hb2.size⟩
  have hnb : w.heap.size ≤ nb ∧ nb < w1.heap.size := Own.lt ho1 nb rfl
  have HI := Lib.hid (And.intro hb1 (And.intro hb2 (And.intro hg2 (And.intro hs2 (And.intro hs1 hnb)))))
  have HW2 := Lib.hid hw2
  have HL1 : Hid (([bCn nItem true 6].length + 1) * 80 ≤ 140737488355328) := Lib.hid (by decide)
  have HL2 : Hid ([bCn nItem true 6].length + 1 ≤ maxLen) := Lib.hid (by decide)
  clear hb1 ho1 hs1 hw2 hb2 hg2 hs2 hnb
  go_upto_region 2 with fail
  rw [← HW2.out]
  go_wp2_with (at_builtin; refine wpList_app rfl (.tmp 13) (.tmp 16) _ _ rfl rfl rfl (run_push elem_cns cnLay _ _ _ [bCn nItem true 6] (bCn nItem false 3) _ HO.out.1 rfl HL1.out HL2.out HO.out.2 rfl) ?_; rintro v3 w3 ⟨ho3, hx3⟩; obtain ⟨N3, nc3, rfl, hlc3, hm3⟩ := ho3.form; have hne : (Value.slice (some ⟨nb, 0, none⟩) 1 1).ownBlock ≠ some w1.heap.size := fun e => (by have e1 := Option.some.inj e; have := HI.out.2.2.2.2.2.2; have e2 : nb = w1.heap.size := e1; omega); have hx := hx3.keeps (S := fun g => g < w2.heap.size ∧ g ≠ nb) (fun k hk => ⟨hk.1, fun e => hk.2 (Option.some.inj e)⟩); have hg3 := (hx w1.heap.size ⟨HI.out.2.2.2.1, fun e => (by have := HI.out.2.2.2.2.2.2; omega)⟩).trans HI.out.2.2.1; have y0 := cell_of_row _ _ 0 _ _ _ hg3; have y1 := cell_of_row _ _ 1 _ _ _ hg3; have y2 := cell_of_row _ _ 2 _ _ _ hg3; have f3 := frozen_of_row _ _ 2 _ _ hg3)
  have hlen2 : 2 ≤ nc3 := hlc3
  obtain ⟨w5, hw5⟩ : ∃ w5, w5 = w3.setCell ⟨w1.heap.size, 2, none⟩ (.slice N3 2 nc3) := ⟨_, rfl⟩
  have hg5 : w5.heap[w1.heap.size]? = some (.cells #[.slice T 2 2, .slice F 1 1, .slice N3 2 nc3] 27 (0, 0)) := by rw [hw5]; exact heap_setCell_at hg3 _
  have hoff5 : ∀ g, g ≠ w1.heap.size → w5.heap[g]? = w3.heap[g]? := fun g hg => by rw [hw5]; exact Below.heap_setCell _ _ _ _ hg
  have hsz5 : w5.heap.size = w3.heap.size := by rw [hw5]; simp [World.setCell]
  have hs12 := HI.out.2.1.size
  have hs23 := hx3.size
  have hbw5 : Below w.heap.size w w5 := by
    rw [hw5]
    exact ((HI.out.1.trans (HI.out.2.1.mono HI.out.1.size)).trans (hx3.below HO.out.2 fun g hg => by have e1 := Option.some.inj hg; have e2 : nb = g := e1; have := HI.out.2.2.2.2.2.1; omega)).setCell (p := ⟨w1.heap.size, 2, none⟩) HI.out.1.size _
  have hS5 : ScOk (· < w5.heap.size) w5 (bS2 T IA IP OA OP F FC N3 nc3) := by
    have hs0 := HI.out.2.2.2.2.1
    have hk : ∀ g, g < w1.heap.size ∧ g ≠ nb → w5.heap[g]? = w1.heap[g]? ∧ g < w5.heap.size := fun g hg => ⟨(hoff5 g (by omega)).trans ((hx g ⟨by omega, hg.2⟩).trans (HI.out.2.1.block g hg.1)), by omega⟩
    have hcn : Elems 7 Cn.cs w5 (· < w5.heap.size) N3 [bCn nItem true 6, bCn nItem false 3] := (ho3.elems cnLay.len rfl).of fun g hg => ⟨hoff5 g (fun e => hx3.ne hne HI.out.2.2.2.1 (by rw [← e]; exact hg)), by rw [hsz5]; exact (Own.lt ho3 g hg).2⟩
    exact ⟨hs0.tabs.of hk, fun t ht => (hs0.tab t ht).of hk, hs0.fks.of hk, fun f hf => (hs0.fk f hf).of hk, hcn⟩
  have HBX : Hid (∀ W, Below w5.heap.size w5 W → SBx w1.heap.size T F N3 nc3 W) := Lib.hid fun W hW => by
    have h := (hW.block w1.heap.size (Array.getElem?_eq_some_iff.1 hg5).1).trans hg5
    exact ⟨cell_of_row _ _ 0 _ _ _ h, cell_of_row _ _ 1 _ _ _ h, cell_of_row _ _ 2 _ _ _ h⟩
  have HK := Lib.hid (rpk hlen2 HBX.out hS5 (fun W hW => HBI0.out W (hbw5.trans (hW.mono hbw5.size))))
  have H5 := Lib.hid (And.intro hS5 (And.intro hbw5 hlen2))
  have HW5 := Lib.hid hw5
  have s5 := HBX.out w5 (Below.refl _ _)
  unfold SBx at s5
  obtain ⟨a0, a1, a2⟩ := s5
  clear x0 x1 x2 f2 ho3 hx3 hlc3 hm3 hne hx hg3 y0 y1 y2 f3 hw5 hg5 hoff5 hsz5 hs12 hs23 hbw5 hS5 hlen2
  rw [← HW5.out]
  go_cut [4, 5] from 19 to 28 (fun v4 v5 wx => RpCut w5 v4 v5 wx)
  case first =>
    go_region_law (first
      | (go_simp; go_at_call 9; refine (HK.out _).mono ?_; rintro e w6 ⟨v4, rfl, s6, HK2⟩; unfold SBx at s6; obtain ⟨b0, b1, b2⟩ := s6)
      | (go_simp; go_at_call 16; refine HK2.out.mono ?_; rintro e w7 ⟨rfl, s7, HK3⟩; unfold SBx at s7; obtain ⟨⟨d0, d1, d2⟩, s7a⟩ := s7; have q0 := fun o => (s7a o).1; have q1 := fun o => (s7a o).2.1; have q2 := fun o => (s7a o).2.2)
      | (go_simp; go_at_call 11; refine HK3.out.mono ?_; rintro e w8 ⟨v8, R8, rfl, s8, hin8, hbg8, hm8, hb8⟩))
    all_goals
      have HF := Lib.hid (And.intro hin8 (And.intro hbg8 (And.intro hm8 hb8)))
      clear hin8 hbg8 hm8 hb8
      go_wp2_with fail
      go_meet
      exact ⟨rfl, _, HF.out⟩
  case rest =>
    obtain ⟨rfl, R8, hin8, hbg8, hm8, hb8⟩ := hcut
    obtain ⟨w8, rfl⟩ : ∃ w8, w8 = wc := ⟨_, rfl⟩
    have HFD : Hid (∀ W R v, Below w5.heap.size w5 W → InB R W v → BG R → Calls Tryz.prog 19 #[.agg #[.slice T 2 2, .slice F 1 1, .slice N3 2 nc3], v] W (FindAns W (vioD 10 (fun _ r => refOk (R 0) r) (fun _ => R 1) 1 ++ vioD 11 (szOk [(true, 6), (false, 3)]) (fun _ => R 0) 2))) := Lib.hid fun W R v hW hi hR => find2 H5.out.2.2 R v W (H5.out.1.on hW) hi hR
    have HF8 := Lib.hid (HFD.out w8 R8 u4 hb8 hin8 hbg8)
    have H8 := Lib.hid (And.intro hin8 (And.intro hbg8 (And.intro hm8 hb8)))
    have s8 := HBX.out w8 hb8
    unfold SBx at s8
    obtain ⟨x0, x1, x2⟩ := s8
    clear hin8 hbg8 hm8 hb8 a0 a1 a2
    go_wp2_with fail
    refine HF8.out.mono ?_
    rintro e w9 ⟨A9, n9, c9, vs, rfl, hel9, hky9, hn9, hd9, hb9⟩
    subst hn9
    obtain ⟨n9, hn9⟩ : ∃ n, vs.length = n := ⟨_, rfl⟩
    rw [hn9]
    have hpos := vio_some H8.out.2.2.1 hd9
    have hne9 : ((n9 : Int) == 0) = false := by rw [beq_eq_false_iff_ne]; omega
    have hn9k : n9 ≤ 1000 := by
      have h1 := vioD_len 10 (fun _ r => refOk (R8 0) r) (fun _ => R8 1) 8 (fun _ => H8.out.2.1.len (i := 1) (by omega)) 1
      have h2 := vioD_len 11 (szOk [(true, 6), (false, 3)]) (fun _ => R8 0) 8 (fun _ => H8.out.2.1.len (i := 0) (by omega)) 2
      have h3 := congrArg List.length hd9
      rw [List.length_map, List.length_append] at h3
      omega
    have hb59 := H8.out.2.2.2.trans (hb9.mono H8.out.2.2.2.size)
    have H9 := Lib.hid (And.intro hel9 (And.intro hky9 (And.intro hn9 (And.intro hd9 (And.intro hb9 hb59)))))
    clear hel9 hky9 hn9 hd9 hb9 hb59 hpos x0 x1 x2
    go_wp2_with fail
    go_loopw [4, 46] (fun v4 vi wr => ∃ (k : Nat) (R : Nat → List Row), vi = .int .i64 (k : Int) ∧ k ≤ n9 ∧ InB R wr v4 ∧ Strk R8 R (vs.take k) ∧ Below w9.heap.size w9 wr) (fun _ vi _ => n9 - (intOf vi).toNat)
    case atStart => exact ⟨0, R8, rfl, by omega, H8.out.1.on H9.out.2.2.2.2.1, ⟨H8.out.2.1, fun r hr => hr, fun x hx => (by simp at hx)⟩, Below.refl _ _⟩
    case round =>
      obtain ⟨k, R, rfl, hkn, hin, hst, hb⟩ := hrel
      obtain ⟨wo, rfl⟩ : ∃ wo, wo = wr := ⟨_, rfl⟩
      obtain ⟨v4, rfl⟩ : ∃ v4, v4 = u4 := ⟨_, rfl⟩
      have hb5o := H9.out.2.2.2.2.2.trans (hb.mono H9.out.2.2.2.2.2.size)
      by_cases hlt : k < n9
      · have hki : k < vs.length := by have := H9.out.2.2.1; omega
        have hlt' : (k : Int) < (n9 : Int) := by omega
        obtain ⟨lb, loff, hA9, -, p0, p1, p2, p3⟩ := (H9.out.1.of fun g hg => ⟨hb.block g hg, Nat.lt_of_lt_of_le hg hb.size⟩ : Elems 4 Vio.cs wo (· < wo.heap.size) A9 vs).vio hki
        have hxk := (H9.out.2.1 _ (List.getElem_mem hki)).on hb
        obtain ⟨d, hd8, hdk⟩ := vio_key H8.out.2.1 H9.out.2.2.2.1 (List.getElem_mem hki)
        have HTK : Hid (vs.take (k + 1) = vs.take k ++ [vs[k]]) := Lib.hid (List.take_succ_eq_append_getElem hki)
        generalize vs[k] = x at *
        obtain ⟨w10, hw10⟩ : ∃ w10, w10 = wo.alloc (.cells #[.int .i64 0, .int .i64 x.err, .int .i64 x.idx, .slice x.key.A x.key.row.length x.key.c] 64) := ⟨_, rfl⟩
        have hb10 : Below wo.heap.size wo w10 := by rw [hw10]; exact (Below.refl _ _).alloc (Nat.le_refl _) _
        have hg10 : w10.heap[wo.heap.size]? = some (.cells #[.int .i64 0, .int .i64 x.err, .int .i64 x.idx, .slice x.key.A x.key.row.length x.key.c] 64 (0, 0)) := by rw [hw10]; exact heap_alloc_new wo _
        have q0 := cell_of_row _ _ 0 _ _ _ hg10
        have q1 := cell_of_row _ _ 1 _ _ _ hg10
        have q2 := cell_of_row _ _ 2 _ _ _ hg10
        have q3 := cell_of_row _ _ 3 _ _ _ hg10
        have hb510 := hb5o.trans (hb10.mono hb5o.size)
        have hb910 := hb.trans (hb10.mono hb.size)
        have s10 := HBX.out w10 hb510
        unfold SBx at s10
        obtain ⟨y0, y1, y2⟩ := s10
        have HDL : Hid (Calls Tryz.prog 11 #[.agg #[.slice T 2 2, .slice F 1 1, .slice N3 2 nc3], v4, .slice (some ⟨w10.heap.size, 0, none⟩) 1 1] (w10.alloc (.cells #[.int .i64 2, .string ⟨#[105, 116, 101, 109]⟩, .slice x.key.A x.key.row.length x.key.c, .slice none 0 0] 51)) (DelAns w10 R8 R (vs.take k) x)) := Lib.hid (applyDelV H5.out.2.2 R8 R (vs.take k) x d v4 w10 (H5.out.1.on hb510) (hin.on hb10) hst hdk hd8 (hxk.on hb10))
        have HS := Lib.hid (And.intro hst (And.intro hb910 (hin.on hb10)))
        have HW10 := Lib.hid hw10
        rw [hA9]
        clear hin hst hb hb5o hxk hd8 hdk hw10 hb10 hg10 hb510 hb910 hA9
        go_upto_region 12 with fail
        rw [← HW10.out]
        by_cases he : x.err = 11
        · rw [he] at q1
          go_wp2_with fail
          refine HDL.out.mono ?_
          rintro e w11 ⟨hb11, ⟨v11, R11, rfl, hin11, hst11⟩ | ⟨rfl, hst11⟩⟩
          · have HF := Lib.hid (And.intro hin11 (And.intro hst11 (HS.out.2.1.trans (hb11.mono HS.out.2.1.size))))
            clear hin11 hst11 hb11
            go_wp2_with fail
            go_roundw
            case rel => exact ⟨k + 1, R11, by go_num, by omega, HF.out.1, by rw [HTK.out]; exact HF.out.2.1, HF.out.2.2⟩
            case measure => simp [intOf]; omega
          · have HF := Lib.hid (And.intro (HS.out.2.2.on hb11) (And.intro hst11 (HS.out.2.1.trans (hb11.mono HS.out.2.1.size))))
            clear hst11 hb11
            go_wp2_with fail
            go_roundw
            case rel => exact ⟨k + 1, R, by go_num, by omega, HF.out.1, by rw [HTK.out]; exact HF.out.2.1, HF.out.2.2⟩
            case measure => simp [intOf]; omega
        · have HE := Lib.hid he
          go_wp2_with fail
          go_roundw
          case rel => exact ⟨k + 1, R, by go_num, by omega, HS.out.2.2, by rw [HTK.out]; exact HS.out.1.skip HE.out, HS.out.2.1⟩
          case measure => simp [intOf]; omega
      · have hk : k = n9 := by omega
        have hst9 : Strk R8 R vs := by rwa [List.take_of_length_le (by have := H9.out.2.2.1; omega)] at hst
        have hend := hst9.end_ H9.out.2.2.2.1
        have HF2 := Lib.hid (HFD.out wo R v4 hb5o hin hst9.bg)
        rw [hend] at HF2
        have s10 := HBX.out wo hb5o
        unfold SBx at s10
        obtain ⟨y0, y1, y2⟩ := s10
        have HBG := Lib.hid hst9.bg
        have HBE := Lib.hid (H5.out.2.1.trans (hb5o.mono H5.out.2.1.size))
        clear hin hst hb hb5o hst9 hend
        go_wp2_with fail
        refine HF2.out.mono ?_
        rintro e w12 ⟨A12, n12, c12, vs12, rfl, hel12, -, hn12, hd12, hb12⟩
        subst hn12
        have hten := vio_ten hd12
        have hl12 : vs12.length ≤ 1000 := by
          have h1 := vioD_len 10 (fun _ r => refOk (R 0) r) (fun _ => R 1) 8 (fun _ => HBG.out.len (i := 1) (by omega)) 1
          have h3 := congrArg List.length hd12
          rw [List.length_map, List.length_append] at h3
          simp at h3
          omega
        have HCT := Lib.hid (containsFuncVio (fid := 22) (caps := #[]) (p := fun x => x.err == 11) A12 c12 vs12 w12 (w0 := w12) ⟨fun args W => by kernel_rfl, fun x W _ _ => repairs1 x W⟩ (Below.refl _ _) hel12 hl12)
        rw [hten] at HCT
        have HB12 := Lib.hid (HBE.out.trans (hb12.mono HBE.out.size))
        clear hel12 hd12 hb12 hten hl12
        go_wp2_with fail
        refine HCT.out.mono ?_
        rintro e w13 ⟨rfl, hb13⟩
        have HF := Lib.hid (HB12.out.trans (hb13.mono HB12.out.size))
        clear hb13
        go_wp2_with fail
        go_ret
        exact ⟨rfl, HF.out⟩
end Go.Proofs.YtefifkleamiabaaGreatDoor
