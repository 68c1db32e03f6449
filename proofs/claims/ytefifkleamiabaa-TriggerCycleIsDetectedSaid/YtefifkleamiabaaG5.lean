/-
  The walks of value.Satisfies at nulls, schema.validateConstraint, where the constraint is valid.
-/
import Derived.Test.YtefifkleamiabaaG4
import Derived.Test.YtefifkleamiabaaValidate
import Derived.Deep.QuietTactic
import Derived.BigQuiet
namespace Go.Proofs.Ytefifkleamiabaa
open Go.RowKit

/-- A predicate's name. -/
def OpV (op : ByteArray) : Prop := op = ⟨#[61]⟩ ∨ op = ⟨#[60]⟩ ∨ op = ⟨#[60, 61]⟩

set_option maxRecDepth 100000 in
set_option maxHeartbeats 1000000 in
theorem satNull (op : ByteArray) (w : World) (h : OpV op) :
    Calls Try.prog 47 #[.agg #[.int .i64 0, .int .i64 0, .string ⟨#[]⟩], .string op, .agg #[.int .i64 0, .int .i64 0, .string ⟨#[]⟩]] w fun e w' => e = .returned (.tuple #[.bool true, .int .i64 0]) ∧ Below w.heap.size w w' := by
  have HB : Hid (∀ a b c, Below w.heap.size w (((w.alloc a).alloc b).alloc c)) := Lib.hid fun a b c => (((Below.refl _ _).alloc (Nat.le_refl _) a).alloc (le_size1 (Nat.le_refl _) _) b).alloc (le_size2 (Nat.le_refl _) _ _) c
  have HB2 : Hid (∀ a b, Below w.heap.size w ((w.alloc a).alloc b)) := Lib.hid fun a b => ((Below.refl _ _).alloc (Nat.le_refl _) a).alloc (le_size1 (Nat.le_refl _) _) b
  rcases h with rfl | rfl | rfl
  all_goals
    go_enter Try.func47, Try.ntmps47
    go_wp2_with fail
    go_ret2
    exact ⟨rfl, HB2.out _ _⟩

/-- A valid constraint on a column and a constant. -/
structure CnV (s : Sc) (c : Cn) (i l : Nat) : Prop where
  il : i < s.tabs.length
  fi : tabI c.name s.tabs = (i : Int)
  left : c.left = (l : Int)
  ll : l < s.tabs[i].cols.length
  op : OpV c.op
  right : c.right = -1
  kind : c.val.kind = s.tabs[i].cols[l].kind
  err : c.val.err = 0

set_option maxRecDepth 100000 in
set_option maxHeartbeats 4000000 in
theorem validateCn (s : Sc) (c : Cn) (i l : Nat) (w : World) (hs : ScOk (· < w.heap.size) w s) (hv : CnV s c i l) (hl : s.tabs.length ≤ 1000) :
    Calls Try.prog 31 #[s.v, .agg c.cells] w fun e w' => e = .returned (.int .i64 0) ∧ Below w.heap.size w w' := by
  have hil := hv.il
  have hll : l < (s.tabs[i]'hil).cols.length := hv.ll
  have HFT := Lib.hid fun W (hW : Below w.heap.size w W) => findTable s c.name W (hs.on hW) hl
  have HTI := Lib.hid fun W (hW : Below w.heap.size w W) => ((hs.on hW).tab _ (List.getElem_mem hil)).cols.col hll
  obtain ⟨w1, hw1⟩ : ∃ w1, w1 = (w.alloc (.cells s.cells 39)).alloc (.cells c.cells 62) := ⟨_, rfl⟩
  have hb1 : Below w.heap.size w w1 := by rw [hw1]; exact ((Below.refl _ _).alloc (Nat.le_refl _) _).alloc (le_size1 (Nat.le_refl _) _) _
  have hg0 : w1.heap[w.heap.size]? = some (.cells s.cells 39 (0, 0)) := by
    rw [hw1, Below.heap_alloc _ _ _ (by simp)]
    exact heap_alloc_new w _
  have hg1 : w1.heap[w.heap.size + 1]? = some (.cells c.cells 62 (0, 0)) := by rw [hw1]; exact alloc2_at w _ _
  have hs1 : w1.heap.size = w.heap.size + 2 := by rw [hw1]; simp
  obtain ⟨n, hn⟩ : ∃ n, s.tabs.length = n := ⟨_, rfl⟩
  have HBK : Hid (∀ W, Below w1.heap.size w1 W → W.cell? ⟨w.heap.size, 0, none⟩ = some (.slice s.TA n s.tc) ∧ W.cell? ⟨w.heap.size, 1, none⟩ = some (.slice s.FA s.fks.length s.fc) ∧ W.cell? ⟨w.heap.size, 2, none⟩ = some (.slice s.NA s.cns.length s.nc)
      ∧ W.cell? ⟨w.heap.size + 1, 0, none⟩ = some (.string c.name) ∧ W.cell? ⟨w.heap.size + 1, 1, none⟩ = some (.int .i64 c.left) ∧ W.cell? ⟨w.heap.size + 1, 2, none⟩ = some (.string c.op) ∧ W.cell? ⟨w.heap.size + 1, 3, none⟩ = some (.int .i64 c.right)
      ∧ W.cell? ⟨w.heap.size + 1, 4, none⟩ = some (.int .i64 c.val.kind) ∧ W.cell? ⟨w.heap.size + 1, 5, none⟩ = some (.int .i64 c.val.int) ∧ W.cell? ⟨w.heap.size + 1, 6, none⟩ = some (.string c.val.text)) := Lib.hid fun W hW => by
    have h0 := (hW.block w.heap.size (by omega)).trans hg0
    have h1 := (hW.block (w.heap.size + 1) (by omega)).trans hg1
    unfold Sc.cells at h0
    rw [hn] at h0
    exact ⟨by rw [cell_of_row _ _ _ _ _ _ h0]; rfl, by rw [cell_of_row _ _ _ _ _ _ h0]; rfl, by rw [cell_of_row _ _ _ _ _ _ h0]; rfl, by rw [cell_of_row _ _ _ _ _ _ h1]; rfl, by rw [cell_of_row _ _ _ _ _ _ h1]; rfl, by rw [cell_of_row _ _ _ _ _ _ h1]; rfl, by rw [cell_of_row _ _ _ _ _ _ h1]; rfl, by rw [cell_of_row _ _ _ _ _ _ h1]; rfl, by rw [cell_of_row _ _ _ _ _ _ h1]; rfl, by rw [cell_of_row _ _ _ _ _ _ h1]; rfl⟩
  have HTB := Lib.hid fun W (hW : Below w.heap.size w W) => (hs.on hW).tabs.tbl hil
  have HB1 := Lib.hid hb1
  have HW1 := Lib.hid hw1
  have hin : (i : Int) < (n : Int) := by omega
  have HFI := Lib.hid hv.fi
  have HSN := Lib.hid fun W => satNull c.op W hv.op
  have HVL := Lib.hid fun W => validate c.val.kind c.val.int c.val.text W
  have he : vErr c.val.kind c.val.int c.val.text = 0 := hv.err
  rw [he] at HVL
  have hkd : c.val.kind = ((s.tabs[i]'hil).cols[l]'hll).kind := hv.kind
  have hlf := hv.left
  have hrt := hv.right
  obtain ⟨c0, c1, c2, c3, c4, c5, c6, c7, c8, c9⟩ := HBK.out w1 (Below.refl _ _)
  unfold Sc.cells Cn.cells at HW1
  unfold Sc.v Sc.cells at HFT ⊢
  unfold Cn.cells
  rw [hn] at HFT HW1 ⊢
  clear hs hv hw1 hb1 hg0 hg1 hs1 hn he
  obtain ⟨TA, tc, tabs, FA, fc, fks, NA, nc, cns⟩ := s
  obtain ⟨cnm, cl, cop, cr, cv⟩ := c
  simp only at *
  subst hlf hrt
  have HKD := Lib.hid hkd
  obtain ⟨ncol, hncol⟩ : ∃ ncol, (tabs[i]'hil).cols.length = ncol := ⟨_, rfl⟩
  have hln : (l : Int) < (ncol : Int) := by
    have h : l < (tabs[i]'hil).cols.length := hll
    rw [hncol] at h
    omega
  have hr1 : ¬ ((ncol : Int) ≤ -1) := by omega
  have HNC := Lib.hid hncol
  have hne : (cv.kind != cv.kind) = false := by simp
  clear hkd hncol
  go_enter Try.func31, Try.ntmps31
  go_upto_region 1 with fail
  rw [← HW1.out]
  go_wp2_with fail
  refine (HFT.out w1 HB1.out).mono ?_
  rintro e w2 ⟨rfl, hb2⟩
  rw [HFI.out]
  have hmi : max (i : Int) 0 = (i : Int) := by omega
  have hdi : decide (0 ≤ (i : Int)) = true := decide_eq_true (by omega)
  unfold findV
  rw [hmi, hdi]
  have HB2 := Lib.hid hb2
  have HB02 := Lib.hid (HB1.out.trans (hb2.mono HB1.out.size))
  obtain ⟨d0, d1, d2, d3, d4, d5, d6, d7, d8, d9⟩ := HBK.out w2 hb2
  obtain ⟨b, off, hA, -, p0, p1, p2⟩ := HTB.out w2 HB02.out
  rw [hA] at d0
  rw [HNC.out] at p1
  clear hb2 c0 c1 c2 c3 c4 c5 c6 c7 c8 c9 hmi hdi p0 p2 hA
  go_wp2_with fail
  refine (HSN.out w2).mono ?_
  rintro e w3 ⟨rfl, hb3⟩
  obtain ⟨f0, f1, f2, f3, f4, f5, f6, f7, f8, f9⟩ := HBK.out w3 (HB2.out.trans (hb3.mono HB2.out.size))
  have HB03 := Lib.hid (HB02.out.trans (hb3.mono HB02.out.size))
  obtain ⟨b2, off2, hA2, -, q0, q1, q2⟩ := HTI.out w3 HB03.out
  rw [← HKD.out] at q1
  rw [hA2]
  clear hb3 d0 d1 d2 d3 d4 d5 d6 d7 d8 d9 p1 q0 q2 hA2
  go_wp2_with fail
  go_quiet (fail)
  go_wp2_with fail
  refine (HVL.out _).mono ?_
  rintro e w4 ⟨rfl, hb4⟩
  have HB4 := Lib.hid hb4
  clear hb4
  go_wp2_with fail
  go_ret
  exact ⟨rfl, (below_drewN HB03.out _).trans (HB4.out.mono HB03.out.size)⟩
end Go.Proofs.Ytefifkleamiabaa
