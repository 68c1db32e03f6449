/-
  The walks of Mod, itemRow, BaseSchema, EmptyInstance.
-/
import Derived.Test.YtefifkleamiabaaG28
import Derived.Test.YtefifkleamiabaaLaw
namespace Go.Proofs.Ytefifkleamiabaa
open Go.RowKit Go.Sort

/-- What Mod answers. -/
def md (k n : Int) : Nat := ((if k < 0 then -(k + 1) else k) % n).toNat
theorem md_lt {k n : Int} (h : 0 < n) : (md k n : Int) < n := by
  unfold md
  have := Int.emod_lt_of_pos (if k < 0 then -(k + 1) else k) h
  have := Int.emod_nonneg (if k < 0 then -(k + 1) else k) (b := n) (by omega)
  omega

set_option maxRecDepth 100000 in
set_option maxHeartbeats 400000 in
theorem modW (k n : Int) (w : World) (hk : -9223372036854775808 ≤ k ∧ k ≤ 9223372036854775807) (h0 : 0 < n) (hn : n ≤ 9223372036854775807) :
    Calls Try.prog 8 #[.int .i64 k, .int .i64 n] w fun e w' => e = .returned (.int .i64 (md k n)) ∧ w = w' := by
  obtain ⟨hk1, hk2⟩ := hk
  by_cases hneg : k < 0
  · have hp : 0 ≤ -(k + 1) := by omega
    have hlt := Int.emod_lt_of_pos (-(k + 1)) h0
    have hge := Int.emod_nonneg (-(k + 1)) (b := n) (by omega)
    have hm : -(k + 1) % n = ((md k n : Nat) : Int) := by unfold md; rw [if_pos hneg]; omega
    have HM := Lib.hid hm
    clear hm
    generalize md k n = m at *
    go_enter Try.func8, Try.ntmps8
    go_wp2_with fail
    go_ret
    exact ⟨ret_int (by rw [← Int.neg_tmod, Int.tmod_eq_emod_of_nonneg hp]; exact HM.out), rfl⟩
  · have hp : 0 ≤ k := by omega
    have hlt := Int.emod_lt_of_pos k h0
    have hge := Int.emod_nonneg k (b := n) (by omega)
    have hm : k % n = ((md k n : Nat) : Int) := by unfold md; rw [if_neg hneg]; omega
    have HM := Lib.hid hm
    clear hm
    generalize md k n = m at *
    go_enter Try.func8, Try.ntmps8
    go_wp2_with fail
    go_ret
    exact ⟨ret_int HM.out, rfl⟩

set_option maxRecDepth 100000 in
theorem itemRowW (x y : Int) (w : World) (hx : I64 x) (hy : I64 y) :
    Calls Try.prog 4 #[.int .i64 x, .int .i64 y] w fun e w' => e = .returned (.slice (some ⟨w.heap.size, 0, none⟩) 4 4) ∧ Elems 3 Val.cs w' (fun g => g = w.heap.size) (some ⟨w.heap.size, 0, none⟩) (iRow (md x 5 : Nat) (md y 7 : Nat)) ∧ Below w.heap.size w w' ∧ w'.heap.size = w.heap.size + 1 := by
  have HX := Lib.hid fun W => modW x 5 W hx (by omega) (by omega)
  have HY := Lib.hid fun W => modW y 7 W hy (by omega) (by omega)
  clear hx hy
  generalize md x 5 = m at *
  generalize md y 7 = n at *
  go_enter Try.func4, Try.ntmps4
  go_wp2_with fail
  refine (HX.out w).mono ?_
  rintro e w' ⟨rfl, rfl⟩
  go_wp2_with fail
  refine (HY.out w).mono ?_
  rintro e w' ⟨rfl, rfl⟩
  go_wp2_with fail
  go_ret
  exact ⟨rfl, elems_block valLay (xs := iRow (m : Nat) (n : Nat)) (heap_alloc_new w _) rfl (by show 4 ≤ maxLen; decide) rfl, (Below.refl _ _).alloc (Nat.le_refl _) _, by simp⟩

theorem three_new (w : World) (a b c : Obj) : (((w.alloc a).alloc b).alloc c).heap[w.heap.size]? = some a ∧ (((w.alloc a).alloc b).alloc c).heap[w.heap.size + 1]? = some b ∧ (((w.alloc a).alloc b).alloc c).heap[w.heap.size + 1 + 1]? = some c ∧ Below w.heap.size w (((w.alloc a).alloc b).alloc c) ∧ (((w.alloc a).alloc b).alloc c).heap.size = w.heap.size + 3 := by
  refine ⟨?_, ?_, ?_, (((Below.refl _ _).alloc (Nat.le_refl _) _).alloc (le_size1 (Nat.le_refl _) _) _).alloc (le_size2 (Nat.le_refl _) _ _) _, by simp⟩
  · rw [Below.heap_alloc _ _ _ (by simp; omega), Below.heap_alloc _ _ _ (by simp)]
    exact heap_alloc_new w a
  · rw [Below.heap_alloc _ _ _ (by simp)]
    exact alloc2_at w a b
  · have h := heap_alloc_new ((w.alloc a).alloc b) c
    simpa using h
theorem four_new (w : World) (a b c d : Obj) : ((((w.alloc a).alloc b).alloc c).alloc d).heap[w.heap.size]? = some a ∧ ((((w.alloc a).alloc b).alloc c).alloc d).heap[w.heap.size + 1]? = some b ∧ ((((w.alloc a).alloc b).alloc c).alloc d).heap[w.heap.size + 1 + 1]? = some c ∧ ((((w.alloc a).alloc b).alloc c).alloc d).heap[w.heap.size + 1 + 1 + 1]? = some d ∧ Below w.heap.size w ((((w.alloc a).alloc b).alloc c).alloc d) ∧ ((((w.alloc a).alloc b).alloc c).alloc d).heap.size = w.heap.size + 4 := by
  obtain ⟨h0, h1, h2, h3, h4⟩ := three_new w a b c
  refine ⟨?_, ?_, ?_, ?_, h3.alloc h3.size _, by simp⟩
  · rw [Below.heap_alloc _ _ _ (by omega)]; exact h0
  · rw [Below.heap_alloc _ _ _ (by omega)]; exact h1
  · rw [Below.heap_alloc _ _ _ (by omega)]; exact h2
  · have h := heap_alloc_new (((w.alloc a).alloc b).alloc c) d
    rw [h4] at h
    exact h

theorem ret_base {a b c : Value} {g : Nat} {w : World} (tmps : Array Value) (hp : tmps.getD 0 undef = .pointer (some ⟨g, 0, none⟩)) (hg : w.heap[g]? = some (.cells #[a, b, c] 39 (0, 0))) :
    (results Try.f5 tmps).run Try.prog w = .ok (.agg #[a, b, c]) w :=
  results_cell_row (P := Try.prog) Try.results5 tmps w g 39 _ (0, 0) _ hp hg Try.underlying39 rfl (by kernel_rfl)
theorem set3 {w : World} {g : Nat} {t : TypeId} {a b c a' b' c' : Value} (h : w.heap[g]? = some (.cells #[a, b, c] t (0, 0))) :
    (((w.setCell ⟨g, 0, none⟩ a').setCell ⟨g, 1, none⟩ b').setCell ⟨g, 2, none⟩ c').heap[g]? = some (.cells #[a', b', c'] t (0, 0)) := by
  rw [heap_setCell_at (heap_setCell_at (heap_setCell_at h _) _) _]
  rfl

set_option maxRecDepth 100000 in
set_option maxHeartbeats 4000000 in
theorem baseSchemaW (w : World) : Calls Try.prog 5 #[] w fun e w' => ∃ T IA IP OA OP F FC N, e = .returned (bSc T IA IP OA OP F FC N).v ∧ ScOk (· < w'.heap.size) w' (bSc T IA IP OA OP F FC N) ∧ Below w.heap.size w w' := by
  obtain ⟨w0, hw0⟩ : ∃ w0, w0 = w.alloc (.cells #[.slice none 0 0, .slice none 0 0, .slice none 0 0] 39) := ⟨_, rfl⟩
  have hb0 : Below w.heap.size w w0 := by rw [hw0]; exact (Below.refl _ _).alloc (Nat.le_refl _) _
  have hg0 : w0.heap[w.heap.size]? = some (.cells #[.slice none 0 0, .slice none 0 0, .slice none 0 0] 39 (0, 0)) := by rw [hw0]; exact heap_alloc_new w _
  have hs0 : w0.heap.size = w.heap.size + 1 := by rw [hw0]; simp
  obtain ⟨w1, hw1⟩ : ∃ w1, w1 = ((w0.alloc (.cells #[.string ⟨#[105, 100]⟩, .int .i64 1, .bool false, .string ⟨#[115, 105, 122, 101]⟩, .int .i64 1, .bool true, .string ⟨#[102, 105, 114, 115, 116]⟩, .int .i64 3, .bool false, .string ⟨#[108, 97, 115, 116]⟩, .int .i64 3, .bool false] 54)).alloc (.cells #[.int .i64 0] 3)).alloc (.cells #[.string ⟨#[105, 116, 101, 109]⟩, .slice (some ⟨w0.heap.size, 0, none⟩) 4 4, .slice (some ⟨w0.heap.size + 1, 0, none⟩) 1 1] 58) := ⟨_, rfl⟩
  obtain ⟨a0, a1, a2, a3, a4⟩ := three_new w0 (.cells #[.string ⟨#[105, 100]⟩, .int .i64 1, .bool false, .string ⟨#[115, 105, 122, 101]⟩, .int .i64 1, .bool true, .string ⟨#[102, 105, 114, 115, 116]⟩, .int .i64 3, .bool false, .string ⟨#[108, 97, 115, 116]⟩, .int .i64 3, .bool false] 54) (.cells #[.int .i64 0] 3) (.cells #[.string ⟨#[105, 116, 101, 109]⟩, .slice (some ⟨w0.heap.size, 0, none⟩) 4 4, .slice (some ⟨w0.heap.size + 1, 0, none⟩) 1 1] 58)
  rw [← hw1] at a0 a1 a2 a3 a4
  obtain ⟨w2, hw2⟩ : ∃ w2, w2 = ((w1.alloc (.cells #[.string ⟨#[105, 100]⟩, .int .i64 1, .bool false, .string ⟨#[105, 116, 101, 109]⟩, .int .i64 1, .bool true, .string ⟨#[112, 97, 105, 100]⟩, .int .i64 2, .bool false] 54)).alloc (.cells #[.int .i64 0] 3)).alloc (.cells #[.string ⟨#[111, 114, 100, 101, 114]⟩, .slice (some ⟨w1.heap.size, 0, none⟩) 3 3, .slice (some ⟨w1.heap.size + 1, 0, none⟩) 1 1] 58) := ⟨_, rfl⟩
  obtain ⟨b0, b1, b2, b3, b4⟩ := three_new w1 (.cells #[.string ⟨#[105, 100]⟩, .int .i64 1, .bool false, .string ⟨#[105, 116, 101, 109]⟩, .int .i64 1, .bool true, .string ⟨#[112, 97, 105, 100]⟩, .int .i64 2, .bool false] 54) (.cells #[.int .i64 0] 3) (.cells #[.string ⟨#[111, 114, 100, 101, 114]⟩, .slice (some ⟨w1.heap.size, 0, none⟩) 3 3, .slice (some ⟨w1.heap.size + 1, 0, none⟩) 1 1] 58)
  rw [← hw2] at b0 b1 b2 b3 b4
  obtain ⟨w3, hw3⟩ : ∃ w3, w3 = (((w2.alloc (.cells #[.string ⟨#[105, 116, 101, 109]⟩, .slice (some ⟨w0.heap.size, 0, none⟩) 4 4, .slice (some ⟨w0.heap.size + 1, 0, none⟩) 1 1, .string ⟨#[111, 114, 100, 101, 114]⟩, .slice (some ⟨w1.heap.size, 0, none⟩) 3 3, .slice (some ⟨w1.heap.size + 1, 0, none⟩) 1 1] 58)).alloc (.cells #[.int .i64 1] 3)).alloc (.cells #[.string ⟨#[111, 114, 100, 101, 114]⟩, .slice (some ⟨w2.heap.size + 1, 0, none⟩) 1 1, .string ⟨#[105, 116, 101, 109]⟩] 60)).alloc (.cells #[.string ⟨#[105, 116, 101, 109]⟩, .int .i64 1, .string ⟨#[60, 61]⟩, .int .i64 (-1), .int .i64 1, .int .i64 6, .string ⟨#[]⟩] 62) := ⟨_, rfl⟩
  obtain ⟨c0, c1, c2, c3, c4, c5⟩ := four_new w2 (.cells #[.string ⟨#[105, 116, 101, 109]⟩, .slice (some ⟨w0.heap.size, 0, none⟩) 4 4, .slice (some ⟨w0.heap.size + 1, 0, none⟩) 1 1, .string ⟨#[111, 114, 100, 101, 114]⟩, .slice (some ⟨w1.heap.size, 0, none⟩) 3 3, .slice (some ⟨w1.heap.size + 1, 0, none⟩) 1 1] 58) (.cells #[.int .i64 1] 3) (.cells #[.string ⟨#[111, 114, 100, 101, 114]⟩, .slice (some ⟨w2.heap.size + 1, 0, none⟩) 1 1, .string ⟨#[105, 116, 101, 109]⟩] 60) (.cells #[.string ⟨#[105, 116, 101, 109]⟩, .int .i64 1, .string ⟨#[60, 61]⟩, .int .i64 (-1), .int .i64 1, .int .i64 6, .string ⟨#[]⟩] 62)
  rw [← hw3] at c0 c1 c2 c3 c4 c5
  have t0 := cell_of_row _ _ 0 _ _ _ a2
  have t1 := cell_of_row _ _ 1 _ _ _ a2
  have t2 := cell_of_row _ _ 2 _ _ _ a2
  have a2' := (b3.block _ (by omega)).trans a2
  have p0 := cell_of_row _ _ 0 _ _ _ a2'
  have p1 := cell_of_row _ _ 1 _ _ _ a2'
  have p2 := cell_of_row _ _ 2 _ _ _ a2'
  have q0 := cell_of_row _ _ 0 _ _ _ b2
  have q1 := cell_of_row _ _ 1 _ _ _ b2
  have q2 := cell_of_row _ _ 2 _ _ _ b2
  have hb13 : Below w1.heap.size w1 w3 := b3.trans (c4.mono b3.size)
  have hb03 : Below w0.heap.size w0 w3 := a3.trans (hb13.mono a3.size)
  have hr3 := (hb03.block w.heap.size (by omega)).trans hg0
  have hb02 : Below w0.heap.size w0 w2 := a3.trans (b3.mono (by omega))
  have hr2 := (hb02.block w.heap.size (by omega)).trans hg0
  have hn4 : ∀ a b c d, ((((w2.alloc a).alloc b).alloc c).alloc d).heap[w.heap.size]? = some (.cells #[.slice none 0 0, .slice none 0 0, .slice none 0 0] 39 (0, 0)) := fun a b c d => ((four_new w2 a b c d).2.2.2.2.1.block _ (by omega)).trans hr2
  have n0 : ∀ a b c d, ((((w2.alloc a).alloc b).alloc c).alloc d).cell? ⟨w.heap.size, 0, none⟩ = some (.slice none 0 0) := fun a b c d => cell_of_row _ _ 0 _ _ _ (hn4 a b c d)
  have n1 : ∀ a b c d, ((((w2.alloc a).alloc b).alloc c).alloc d).cell? ⟨w.heap.size, 1, none⟩ = some (.slice none 0 0) := fun a b c d => cell_of_row _ _ 1 _ _ _ (hn4 a b c d)
  have n2 : ∀ a b c d, ((((w2.alloc a).alloc b).alloc c).alloc d).cell? ⟨w.heap.size, 2, none⟩ = some (.slice none 0 0) := fun a b c d => cell_of_row _ _ 2 _ _ _ (hn4 a b c d)
  have f0 : ∀ a b c d i, ((((w2.alloc a).alloc b).alloc c).alloc d).frozen? ⟨w.heap.size, i, none⟩ = false := fun a b c d i => frozen_of_row _ _ i _ _ (hn4 a b c d)
  have HFIN : Hid (∀ v0 v1 v2, ScOk (· < w3.heap.size) (((w3.setCell ⟨w.heap.size, 0, none⟩ v0).setCell ⟨w.heap.size, 1, none⟩ v1).setCell ⟨w.heap.size, 2, none⟩ v2) (bSc (some ⟨w2.heap.size, 0, none⟩) (some ⟨w0.heap.size, 0, none⟩) (some ⟨w0.heap.size + 1, 0, none⟩) (some ⟨w1.heap.size, 0, none⟩) (some ⟨w1.heap.size + 1, 0, none⟩) (some ⟨w2.heap.size + 1 + 1, 0, none⟩) (some ⟨w2.heap.size + 1, 0, none⟩) (some ⟨w2.heap.size + 1 + 1 + 1, 0, none⟩))) := Lib.hid fun v0 v1 v2 => by
    have hsc : ScOk (fun g => w.heap.size < g ∧ g < w3.heap.size) w3 (bSc (some ⟨w2.heap.size, 0, none⟩) (some ⟨w0.heap.size, 0, none⟩) (some ⟨w0.heap.size + 1, 0, none⟩) (some ⟨w1.heap.size, 0, none⟩) (some ⟨w1.heap.size + 1, 0, none⟩) (some ⟨w2.heap.size + 1 + 1, 0, none⟩) (some ⟨w2.heap.size + 1, 0, none⟩) (some ⟨w2.heap.size + 1 + 1 + 1, 0, none⟩)) := by
      refine ⟨(elems_block tblLay (xs := (bSc (some ⟨w2.heap.size, 0, none⟩) (some ⟨w0.heap.size, 0, none⟩) (some ⟨w0.heap.size + 1, 0, none⟩) (some ⟨w1.heap.size, 0, none⟩) (some ⟨w1.heap.size + 1, 0, none⟩) (some ⟨w2.heap.size + 1 + 1, 0, none⟩) (some ⟨w2.heap.size + 1, 0, none⟩) (some ⟨w2.heap.size + 1 + 1 + 1, 0, none⟩)).tabs) c0 rfl (by show 2 ≤ maxLen; decide) rfl).more fun g hg => ⟨by omega, by omega⟩, fun t ht => ?_, (elems_block fkLay (xs := [⟨nOrder, some ⟨w2.heap.size + 1, 0, none⟩, 1, [1], nItem⟩]) c2 rfl (by show 1 ≤ maxLen; decide) rfl).more fun g hg => ⟨by omega, by omega⟩, fun f hf => ?_, (elems_block cnLay (xs := [⟨nItem, 1, ⟨#[60, 61]⟩, -1, ⟨1, 6, ⟨#[]⟩⟩⟩]) c3 rfl (by show 1 ≤ maxLen; decide) rfl).more fun g hg => ⟨by omega, by omega⟩⟩
      · simp only [bSc, List.mem_cons, List.not_mem_nil, or_false] at ht
        rcases ht with rfl | rfl
        · exact ⟨(elems_block colLay (xs := itemCols) ((hb13.block _ (by omega)).trans a0) rfl (by decide) rfl).more fun g hg => ⟨by omega, by omega⟩, (elems_block intLay (xs := [0]) ((hb13.block _ (by omega)).trans a1) rfl (by decide) rfl).more fun g hg => ⟨by omega, by omega⟩⟩
        · exact ⟨(elems_block colLay (xs := orderCols) ((c4.block _ (by omega)).trans b0) rfl (by decide) rfl).more fun g hg => ⟨by omega, by omega⟩, (elems_block intLay (xs := [0]) ((c4.block _ (by omega)).trans b1) rfl (by decide) rfl).more fun g hg => ⟨by omega, by omega⟩⟩
      · simp only [bSc, List.mem_cons, List.not_mem_nil, or_false] at hf
        subst hf
        exact (elems_block intLay (xs := [1]) c1 rfl (by decide) rfl).more fun g hg => ⟨by omega, by omega⟩
    refine (hsc.keep fun g hg => ?_).more fun g hg => hg.2
    rw [Below.heap_setCell _ _ _ _ (by show g ≠ w.heap.size; omega), Below.heap_setCell _ _ _ _ (by show g ≠ w.heap.size; omega), Below.heap_setCell _ _ _ _ (by show g ≠ w.heap.size; omega)]
  have HB : Hid (Below w.heap.size w w3) := Lib.hid (hb0.trans (hb03.mono hb0.size))
  have HR3 := Lib.hid hr3
  have HW0 := Lib.hid hw0
  have HW1 := Lib.hid hw1
  have HW2 := Lib.hid hw2
  have HW3 := Lib.hid hw3
  clear hw0 hw1 hw2 hw3 hb0 hg0 hs0 a0 a1 a2 a2' a3 a4 b0 b1 b2 b3 b4 c0 c1 c2 c3 c4 c5 hb13 hb03 hr3 hn4
  go_enter Try.func5, Try.ntmps5
  go_upto_region 1 with fail
  rw [← HW0.out]
  go_upto_region 2 with fail
  rw [← HW1.out]
  go_upto_region 3 with fail
  rw [← HW2.out]
  go_wp2_with fail
  rw [← HW3.out]
  refine bodyPost_ret (ret_base _ rfl (set3 HR3.out)) rfl ?_
  exact ⟨_, _, _, _, _, _, _, _, rfl, (HFIN.out _ _ _).more fun g hg => by simpa [World.setCell] using hg, ((HB.out.setCell (p := ⟨w.heap.size, 0, none⟩) (Nat.le_refl _) _).setCell (p := ⟨w.heap.size, 1, none⟩) (Nat.le_refl _) _).setCell (p := ⟨w.heap.size, 2, none⟩) (Nat.le_refl _) _⟩

theorem make_rels : ∀ W : World, (Instr.makeSlice 43 (.int .i64 2) (.int .i64 2)).run Try.prog W = .ok (.slice (some ⟨W.heap.size, 0, none⟩) 2 2) (W.alloc (.cells #[.string ⟨#[]⟩, .slice none 0 0, .string ⟨#[]⟩, .slice none 0 0] 73)) := by
  intro W
  have h : (Try.prog.info? 73).map (fun i => (i.zero, i.size, i.bytes)) = some (some (.agg #[.string ByteArray.empty, .slice none 0 0]), 2, 40) := by kernel_rfl
  obtain ⟨i, hi, hz, h1, h2⟩ := info_parts h
  have := run_makeSlice (P := Try.prog) W 43 73 i _ Try.underlying43 hi hz .i64 .i64 2 2 (by omega) (Int.le_refl _) (by rw [h1]; decide) (by rw [h2]; omega) (by omega)
  rw [h1] at this
  have e : madeCells (Value.agg #[.string ByteArray.empty, .slice none 0 0]).cells ((2 : Int).toNat * 2) = #[.string ⟨#[]⟩, .slice none 0 0, .string ⟨#[]⟩, .slice none 0 0] := by kernel_rfl
  rw [e] at this
  exact this

/-- The instance's block. -/
def EiB (w : World) (g : Nat) (n0 n1 : ByteArray) (W : World) : Prop := W.heap[g]? = some (.cells #[.string n0, .slice none 0 0, .string n1, .slice none 0 0] 73 (0, 0)) ∧ Below w.heap.size w W
theorem EiB.at {w W : World} {g : Nat} {n0 n1 : ByteArray} (h : EiB w g n0 n1 W) : (∃ q, W.cell? ⟨g, 0, none⟩ = some q) ∧ (∃ q, W.cell? ⟨g, 2, none⟩ = some q) ∧ (∀ i, W.frozen? ⟨g, i, none⟩ = false) :=
  ⟨⟨_, cell_of_row _ _ 0 _ _ _ h.1⟩, ⟨_, cell_of_row _ _ 2 _ _ _ h.1⟩, fun i => frozen_of_row _ _ i _ _ h.1⟩
theorem EiB.new {w w1 : World} (hb : Below w.heap.size w w1) : EiB w w1.heap.size ⟨#[]⟩ ⟨#[]⟩ (w1.alloc (.cells #[.string ⟨#[]⟩, .slice none 0 0, .string ⟨#[]⟩, .slice none 0 0] 73)) := ⟨heap_alloc_new w1 _, hb.alloc hb.size _⟩
theorem EiB.set0 {w W : World} {g : Nat} {n0 n1 n : ByteArray} (h : EiB w g n0 n1 W) (hg : w.heap.size ≤ g) : EiB w g n n1 (W.setCell ⟨g, 0, none⟩ (.string n)) := ⟨heap_setCell_at h.1 _, h.2.setCell (p := ⟨g, 0, none⟩) hg _⟩
theorem EiB.set1 {w W : World} {g : Nat} {n0 n1 n : ByteArray} (h : EiB w g n0 n1 W) (hg : w.heap.size ≤ g) : EiB w g n0 n (W.setCell ⟨g, 2, none⟩ (.string n)) := ⟨heap_setCell_at h.1 _, h.2.setCell (p := ⟨g, 2, none⟩) hg _⟩
theorem EiB.grow {w W W' : World} {g : Nat} {n0 n1 : ByteArray} (h : EiB w g n0 n1 W) (hb : Below W.heap.size W W') : EiB w g n0 n1 W' := ⟨(hb.block g (Array.getElem?_eq_some_iff.1 h.1).1).trans h.1, h.2.trans (hb.mono h.2.size)⟩
theorem EiB.inst {w W : World} {g : Nat} (h : EiB w g nItem nOrder W) : InOk (· < W.heap.size) W (some ⟨g, 0, none⟩) [⟨nItem, none, 0, []⟩, ⟨nOrder, none, 0, []⟩] := by
  refine ⟨(elems_block relLay (xs := [⟨nItem, none, 0, []⟩, ⟨nOrder, none, 0, []⟩]) h.1 rfl (by decide) rfl).more fun k hk => ?_, fun r hr => ?_⟩
  · have hk : k = g := hk
    rw [hk]
    exact (Array.getElem?_eq_some_iff.1 h.1).1
  · have he : RsOk (· < W.heap.size) W none [] := ⟨((Own.nil (base := 0) (e := 23) W).elems keyLay.len rfl).more (fun g hg => by cases hg), fun k hk => by cases hk⟩
    simp only [List.mem_cons, List.not_mem_nil, or_false] at hr
    rcases hr with rfl | rfl <;> exact he

set_option maxRecDepth 100000 in
set_option maxHeartbeats 4000000 in
theorem emptyW (s : Sc) (w : World) (hs : ScOk (· < w.heap.size) w s) (h2 : s.tabs.length = 2) (hn0 : ∀ h : 0 < s.tabs.length, s.tabs[0].name = nItem) (hn1 : ∀ h : 1 < s.tabs.length, s.tabs[1].name = nOrder) :
    Calls Try.prog 7 #[s.v] w fun e w' => ∃ IA ic, e = .returned (.slice IA 2 ic) ∧ InOk (· < w'.heap.size) w' IA [⟨nItem, none, 0, []⟩, ⟨nOrder, none, 0, []⟩] ∧ Below w.heap.size w w' := by
  have h0l : 0 < s.tabs.length := by omega
  have h1l : 1 < s.tabs.length := by omega
  obtain ⟨w1, hw1⟩ : ∃ w1, w1 = w.alloc (.cells s.cells 39) := ⟨_, rfl⟩
  have hb1 : Below w.heap.size w w1 := by rw [hw1]; exact (Below.refl _ _).alloc (Nat.le_refl _) _
  have hg0 : w1.heap[w.heap.size]? = some (.cells s.cells 39 (0, 0)) := by rw [hw1]; exact heap_alloc_new w _
  have hs1 : w.heap.size < w1.heap.size := by rw [hw1]; simp
  obtain ⟨tb, toff, hTA, -, -⟩ := hs.tabs.tbl h0l
  have HTB : Hid (∀ W, Below w.heap.size w W → (W.cell? ⟨tb, toff, none⟩ = some (.string nItem) ∧ W.cell? ⟨tb, toff + 1, none⟩ = some (.slice s.tabs[0].CA s.tabs[0].cols.length s.tabs[0].cc) ∧ W.cell? ⟨tb, toff + 2, none⟩ = some (.slice s.tabs[0].PA s.tabs[0].pk.length s.tabs[0].pc)) ∧ W.cell? ⟨tb, toff + 3, none⟩ = some (.string nOrder) ∧ W.cell? ⟨tb, toff + 3 + 1, none⟩ = some (.slice s.tabs[1].CA s.tabs[1].cols.length s.tabs[1].cc) ∧ W.cell? ⟨tb, toff + 3 + 2, none⟩ = some (.slice s.tabs[1].PA s.tabs[1].pk.length s.tabs[1].pc)) := Lib.hid fun W hW => by
    obtain ⟨tb', toff', e, -, p0, p1, p2⟩ := (hs.on hW).tabs.tbl h0l
    obtain ⟨tb2, toff2, e2, -, q0, q1, q2⟩ := (hs.on hW).tabs.tbl h1l
    rw [hTA] at e e2
    injection e with e
    injection e with e3 e4
    injection e2 with e2
    injection e2 with e5 e6
    subst e3 e4 e5 e6
    rw [hn0] at p0
    rw [hn1] at q0
    rw [Nat.zero_mul, Nat.add_zero] at p0 p1 p2
    rw [Nat.one_mul] at q0 q1 q2
    exact ⟨⟨p0, p1, p2⟩, q0, q1, q2⟩
  have HBK : Hid (∀ W, Below w1.heap.size w1 W → W.cell? ⟨w.heap.size, 0, none⟩ = some (.slice (some ⟨tb, toff, none⟩) 2 s.tc)) := Lib.hid fun W hW => by
    have h0 := (hW.block w.heap.size hs1).trans hg0
    unfold Sc.cells at h0
    rw [hTA, h2] at h0
    exact cell_of_row _ _ 0 _ _ _ h0
  have HB1 := Lib.hid hb1
  have HS1 := Lib.hid hs1
  have HW1 := Lib.hid hw1
  have c0 := HBK.out w1 (Below.refl _ _)
  have hmk := make_rels
  have HE1 := Lib.hid (EiB.new hb1)
  unfold Sc.cells at HW1
  unfold Sc.v Sc.cells
  rw [hTA, h2] at HW1 ⊢
  clear hs hn0 hn1 hb1 hg0 hs1 hw1 hTA h2
  go_enter Try.func7, Try.ntmps7
  go_upto_region 1 with fail
  rw [← HW1.out]
  go_upto_region 2 with fail
  obtain ⟨w2, hw2⟩ : ∃ w2, w2 = w1.alloc (.cells #[.string ⟨#[]⟩, .slice none 0 0, .string ⟨#[]⟩, .slice none 0 0] 73) := ⟨_, rfl⟩
  rw [← hw2] at HE1 ⊢
  have hb12 : Below w1.heap.size w1 w2 := by rw [hw2]; exact (Below.refl _ _).alloc (Nat.le_refl _) _
  have c2 := HBK.out w2 hb12
  have HG : Hid (w.heap.size ≤ w1.heap.size) := Lib.hid HB1.out.size
  generalize w1.heap.size = g at *
  clear hw2 hb12 c0
  go_wp2_with fail
  go_loopw [13] (fun vi wr => (vi = .int .i64 0 ∧ EiB w g ⟨#[]⟩ ⟨#[]⟩ wr) ∨ (vi = .int .i64 1 ∧ EiB w g nItem ⟨#[]⟩ wr) ∨ (vi = .int .i64 2 ∧ EiB w g nItem nOrder wr)) (fun vi _ => 2 - (intOf vi).toNat)
  case atStart => exact .inl ⟨rfl, HE1.out⟩
  case round =>
    obtain ⟨wo, rfl⟩ : ∃ wo, wo = wr := ⟨_, rfl⟩
    rcases hrel with ⟨rfl, hE⟩ | ⟨rfl, hE⟩ | ⟨rfl, hE⟩
    · obtain ⟨⟨p0, p1, p2⟩, -⟩ := HTB.out wo hE.2
      obtain ⟨w5, hw5⟩ : ∃ w5, w5 = wo.alloc (.cells #[.string nItem, .slice s.tabs[0].CA s.tabs[0].cols.length s.tabs[0].cc, .slice s.tabs[0].PA s.tabs[0].pk.length s.tabs[0].pc] 58) := ⟨_, rfl⟩
      have hb5 : Below wo.heap.size wo w5 := by rw [hw5]; exact (Below.refl _ _).alloc (Nat.le_refl _) _
      have hg5 : w5.heap[wo.heap.size]? = some (.cells #[.string nItem, .slice s.tabs[0].CA s.tabs[0].cols.length s.tabs[0].cc, .slice s.tabs[0].PA s.tabs[0].pk.length s.tabs[0].pc] 58 (0, 0)) := by rw [hw5]; exact heap_alloc_new wo _
      have t0 := cell_of_row _ _ 0 _ _ _ hg5
      have hE5 := hE.grow hb5
      obtain ⟨⟨q0, y0⟩, ⟨q2, y2⟩, y3⟩ := hE5.at
      have HF := Lib.hid (hE5.set0 (n := nItem) HG.out)
      have HW5 := Lib.hid hw5
      clear hE hw5 hb5 hg5 hE5
      go_upto_region 5 with fail
      rw [← HW5.out]
      go_wp2_with fail
      go_roundw
      case rel => exact .inr (.inl ⟨by go_num, HF.out⟩)
      case measure => simp [intOf]
    · obtain ⟨-, p0, p1, p2⟩ := HTB.out wo hE.2
      obtain ⟨w5, hw5⟩ : ∃ w5, w5 = wo.alloc (.cells #[.string nOrder, .slice s.tabs[1].CA s.tabs[1].cols.length s.tabs[1].cc, .slice s.tabs[1].PA s.tabs[1].pk.length s.tabs[1].pc] 58) := ⟨_, rfl⟩
      have hb5 : Below wo.heap.size wo w5 := by rw [hw5]; exact (Below.refl _ _).alloc (Nat.le_refl _) _
      have hg5 : w5.heap[wo.heap.size]? = some (.cells #[.string nOrder, .slice s.tabs[1].CA s.tabs[1].cols.length s.tabs[1].cc, .slice s.tabs[1].PA s.tabs[1].pk.length s.tabs[1].pc] 58 (0, 0)) := by rw [hw5]; exact heap_alloc_new wo _
      have t0 := cell_of_row _ _ 0 _ _ _ hg5
      have hE5 := hE.grow hb5
      obtain ⟨⟨q0, y0⟩, ⟨q2, y2⟩, y3⟩ := hE5.at
      have HF := Lib.hid (hE5.set1 (n := nOrder) HG.out)
      have HW5 := Lib.hid hw5
      clear hE hw5 hb5 hg5 hE5
      go_upto_region 5 with fail
      rw [← HW5.out]
      go_wp2_with fail
      go_roundw
      case rel => exact .inr (.inr ⟨by go_num, HF.out⟩)
      case measure => simp [intOf]
    · have HF := Lib.hid (And.intro hE.inst hE.2)
      clear hE
      go_wp2_with fail
      go_ret
      exact ⟨_, _, rfl, HF.out.1, HF.out.2⟩
end Go.Proofs.Ytefifkleamiabaa
