/-
  The walk of value.Validate.
  The walks of value.Satisfies at nulls, schema.validateConstraint, where the constraint is valid.
  The walk of schema.Validate, where the schema is valid (at most one foreign key, one constraint).
  The walks of relation.Key and secondary.project.
  The walks of secondary.CheckRow, matches, sortedKeys, where all is well.
  Instances in memory; the walk of instance.ConformsRow, where the row fits.
  slices.Clone over ints, columns and rows (turned from XTr, XOj).
-/
import Derived.Test.YtefifkleamiabaaGreatDoorUm01
import Derived.Test.YtefifkleamiabaaGreatDoorRows
import Derived.Test.YtefifkleamiabaaGreatDoorUm02
import Derived.Deep.QuietTactic
import Derived.BigQuiet
import Derived.Lib.SliceRun
namespace Go.Proofs.YtefifkleamiabaaGreatDoor
open Go.RowKit

set_option maxHeartbeats 1000000 in
theorem validate (k n : Int) (s : ByteArray) (w : World) :
    Calls Tryz.prog 103 #[.agg #[.int .i64 k, .int .i64 n, .string s]] w fun e w' => e = .returned (.int .i64 (vErr k n s)) ∧ Below w.heap.size w w' := by
  by_cases hk0 : k = 0
  · subst hk0
    by_cases hn : n = 0
    · subst hn
      go_enter Tryz.func103, Tryz.ntmps103
      go_wp2
      all_goals (go_ret; exact ⟨ret_int (by simp_all [vErr]), (Below.refl _ _).alloc (Nat.le_refl _) _⟩)
    · go_enter Tryz.func103, Tryz.ntmps103
      go_wp2
      all_goals (go_ret; exact ⟨ret_int (by simp_all [vErr]), (Below.refl _ _).alloc (Nat.le_refl _) _⟩)
  by_cases hk1 : k = 1
  · subst hk1
    go_enter Tryz.func103, Tryz.ntmps103
    go_wp2
    all_goals (go_ret; exact ⟨ret_int (by simp_all [vErr] <;> omega), (Below.refl _ _).alloc (Nat.le_refl _) _⟩)
  by_cases hk2 : k = 2
  · subst hk2
    by_cases hn : n = 0
    · subst hn
      go_enter Tryz.func103, Tryz.ntmps103
      go_wp2
      all_goals (go_ret; exact ⟨ret_int (by simp_all [vErr] <;> omega), (Below.refl _ _).alloc (Nat.le_refl _) _⟩)
    by_cases hn1 : n = 1
    · subst hn1
      go_enter Tryz.func103, Tryz.ntmps103
      go_wp2
      all_goals (go_ret; exact ⟨ret_int (by simp_all [vErr] <;> omega), (Below.refl _ _).alloc (Nat.le_refl _) _⟩)
    · go_enter Tryz.func103, Tryz.ntmps103
      go_wp2
      all_goals (go_ret; exact ⟨ret_int (by simp_all [vErr] <;> omega), (Below.refl _ _).alloc (Nat.le_refl _) _⟩)
  by_cases hk3 : k = 3
  · subst hk3
    by_cases hn : n = 0
    · subst hn
      go_enter Tryz.func103, Tryz.ntmps103
      go_wp2
      all_goals (go_ret; exact ⟨ret_int (by simp_all [vErr] <;> omega), (Below.refl _ _).alloc (Nat.le_refl _) _⟩)
    · go_enter Tryz.func103, Tryz.ntmps103
      go_wp2
      all_goals (go_ret; exact ⟨ret_int (by simp_all [vErr] <;> omega), (Below.refl _ _).alloc (Nat.le_refl _) _⟩)
  · go_enter Tryz.func103, Tryz.ntmps103
    go_wp2
    all_goals (go_ret; exact ⟨ret_int (by simp_all [vErr] <;> omega), (Below.refl _ _).alloc (Nat.le_refl _) _⟩)

end Go.Proofs.YtefifkleamiabaaGreatDoor

namespace Go.Proofs.YtefifkleamiabaaGreatDoor
open Go.RowKit

/-- A predicate's name. -/
def OpV (op : ByteArray) : Prop := op = ⟨#[61]⟩ ∨ op = ⟨#[60]⟩ ∨ op = ⟨#[60, 61]⟩

set_option maxRecDepth 100000 in
set_option maxHeartbeats 1000000 in
theorem satNull (op : ByteArray) (w : World) (h : OpV op) :
    Calls Tryz.prog 114 #[.agg #[.int .i64 0, .int .i64 0, .string ⟨#[]⟩], .string op, .agg #[.int .i64 0, .int .i64 0, .string ⟨#[]⟩]] w fun e w' => e = .returned (.tuple #[.bool true, .int .i64 0]) ∧ Below w.heap.size w w' := by
  have HB : Hid (∀ a b c, Below w.heap.size w (((w.alloc a).alloc b).alloc c)) := Lib.hid fun a b c => (((Below.refl _ _).alloc (Nat.le_refl _) a).alloc (le_size1 (Nat.le_refl _) _) b).alloc (le_size2 (Nat.le_refl _) _ _) c
  have HB2 : Hid (∀ a b, Below w.heap.size w ((w.alloc a).alloc b)) := Lib.hid fun a b => ((Below.refl _ _).alloc (Nat.le_refl _) a).alloc (le_size1 (Nat.le_refl _) _) b
  rcases h with rfl | rfl | rfl
  all_goals
    go_enter Tryz.func114, Tryz.ntmps114
    go_wp2_with fail
    go_ret2
    exact ⟨rfl, HB2.out _ _⟩

/-- A valid constraint on a column and a constant. -/
structure CnV (s : Sc) (c : Cn) (i l : Nat) : Prop where
  il : i < s.tabs.length
  fi : tabI c.name s.tabs = (i : Int)
  left : c.left = (l : Int)
  ll : l < s.tabs[i].cols.length
  op : OpV c.op
  right : c.right = -1
  kind : c.val.kind = s.tabs[i].cols[l].kind
  err : c.val.err = 0

set_option maxRecDepth 100000 in
set_option maxHeartbeats 4000000 in
theorem validateCn (s : Sc) (c : Cn) (i l : Nat) (w : World) (hs : ScOk (· < w.heap.size) w s) (hv : CnV s c i l) (hl : s.tabs.length ≤ 1000) :
    Calls Tryz.prog 82 #[s.v, .agg c.cells] w fun e w' => e = .returned (.int .i64 0) ∧ Below w.heap.size w w' := by
  have hil := hv.il
  have hll : l < (s.tabs[i]'hil).cols.length := hv.ll
  have HFT := Lib.hid fun W (hW : Below w.heap.size w W) => findTable s c.name W (hs.on hW) hl
  have HTI := Lib.hid fun W (hW : Below w.heap.size w W) => ((hs.on hW).tab _ (List.getElem_mem hil)).cols.col hll
  obtain ⟨w1, hw1⟩ : ∃ w1, w1 = (w.alloc (.cells s.cells 27)).alloc (.cells c.cells 62) := ⟨_, rfl⟩
  have hb1 : Below w.heap.size w w1 := by rw [hw1]; exact ((Below.refl _ _).alloc (Nat.le_refl _) _).alloc (le_size1 (Nat.le_refl _) _) _
  have hg0 : w1.heap[w.heap.size]? = some (.cells s.cells 27 (0, 0)) := by
    rw [hw1, Below.heap_alloc _ _ _ (by simp)]
    exact heap_alloc_new w _
  have hg1 : w1.heap[w.heap.size + 1]? = some (.cells c.cells 62 (0, 0)) := by rw [hw1]; exact alloc2_at w _ _
  have hs1 : w1.heap.size = w.heap.size + 2 := by rw [hw1]; simp
  obtain ⟨n, hn⟩ : ∃ n, s.tabs.length = n := ⟨_, rfl⟩
  have HBK : Hid (∀ W, Below w1.heap.size w1 W → W.cell? ⟨w.heap.size, 0, none⟩ = some (.slice s.TA n s.tc) ∧ W.cell? ⟨w.heap.size, 1, none⟩ = some (.slice s.FA s.fks.length s.fc) ∧ W.cell? ⟨w.heap.size, 2, none⟩ = some (.slice s.NA s.cns.length s.nc)
      ∧ W.cell? ⟨w.heap.size + 1, 0, none⟩ = some (.string c.name) ∧ W.cell? ⟨w.heap.size + 1, 1, none⟩ = some (.int .i64 c.left) ∧ W.cell? ⟨w.heap.size + 1, 2, none⟩ = some (.string c.op) ∧ W.cell? ⟨w.heap.size + 1, 3, none⟩ = some (.int .i64 c.right)
      ∧ W.cell? ⟨w.heap.size + 1, 4, none⟩ = some (.int .i64 c.val.kind) ∧ W.cell? ⟨w.heap.size + 1, 5, none⟩ = some (.int .i64 c.val.int) ∧ W.cell? ⟨w.heap.size + 1, 6, none⟩ = some (.string c.val.text)) := Lib.hid fun W hW => by
    have h0 := (hW.block w.heap.size (by omega)).trans hg0
    have h1 := (hW.block (w.heap.size + 1) (by omega)).trans hg1
    unfold Sc.cells at h0
    rw [hn] at h0
    exact ⟨by rw [cell_of_row _ _ _ _ _ _ h0]; rfl, by rw [cell_of_row _ _ _ _ _ _ h0]; rfl, by rw [cell_of_row _ _ _ _ _ _ h0]; rfl, by rw [cell_of_row _ _ _ _ _ _ h1]; rfl, by rw [cell_of_row _ _ _ _ _ _ h1]; rfl, by rw [cell_of_row _ _ _ _ _ _ h1]; rfl, by rw [cell_of_row _ _ _ _ _ _ h1]; rfl, by rw [cell_of_row _ _ _ _ _ _ h1]; rfl, by rw [cell_of_row _ _ _ _ _ _ h1]; rfl, by rw [cell_of_row _ _ _ _ _ _ h1]; rfl⟩
  have HTB := Lib.hid fun W (hW : Below w.heap.size w W) => (hs.on hW).tabs.tbl hil
  have HB1 := Lib.hid hb1
  have HW1 := Lib.hid hw1
  have hin : (i : Int) < (n : Int) := by omega
  have HFI := Lib.hid hv.fi
  have HSN := Lib.hid fun W => satNull c.op W hv.op
  have HVL := Lib.hid fun W => validate c.val.kind c.val.int c.val.text W
  have he : vErr c.val.kind c.val.int c.val.text = 0 := hv.err
  rw [he] at HVL
  have hkd : c.val.kind = ((s.tabs[i]'hil).cols[l]'hll).kind := hv.kind
  have hlf := hv.left
  have hrt := hv.right
  obtain ⟨c0, c1, c2, c3, c4, c5, c6, c7, c8, c9⟩ := HBK.out w1 (Below.refl _ _)
  unfold Sc.cells Cn.cells at HW1
  unfold Sc.v Sc.cells at HFT ⊢
  unfold Cn.cells
  rw [hn] at HFT HW1 ⊢
  clear hs hv hw1 hb1 hg0 hg1 hs1 hn he
  obtain ⟨TA, tc, tabs, FA, fc, fks, NA, nc, cns⟩ := s
  obtain ⟨cnm, cl, cop, cr, cv⟩ := c
  simp only at *
  subst hlf hrt
  have HKD := Lib.hid hkd
  obtain ⟨ncol, hncol⟩ : ∃ ncol, (tabs[i]'hil).cols.length = ncol := ⟨_, rfl⟩
  have hln : (l : Int) < (ncol : Int) := by
    have h : l < (tabs[i]'hil).cols.length := hll
    rw [hncol] at h
    omega
  have hr1 : ¬ ((ncol : Int) ≤ -1) := by omega
  have HNC := Lib.hid hncol
  have hne : (cv.kind != cv.kind) = false := by simp
  clear hkd hncol
  go_enter Tryz.func82, Tryz.ntmps82
  go_upto_region 1 with fail
  rw [← HW1.out]
  go_wp2_with fail
  refine (HFT.out w1 HB1.out).mono ?_
  rintro e w2 ⟨rfl, hb2⟩
  rw [HFI.out]
  have hmi : max (i : Int) 0 = (i : Int) := by omega
  have hdi : decide (0 ≤ (i : Int)) = true := decide_eq_true (by omega)
  unfold findV
  rw [hmi, hdi]
  have HB2 := Lib.hid hb2
  have HB02 := Lib.hid (HB1.out.trans (hb2.mono HB1.out.size))
  obtain ⟨d0, d1, d2, d3, d4, d5, d6, d7, d8, d9⟩ := HBK.out w2 hb2
  obtain ⟨b, off, hA, -, p0, p1, p2⟩ := HTB.out w2 HB02.out
  rw [hA] at d0
  rw [HNC.out] at p1
  clear hb2 c0 c1 c2 c3 c4 c5 c6 c7 c8 c9 hmi hdi p0 p2 hA
  go_wp2_with fail
  refine (HSN.out w2).mono ?_
  rintro e w3 ⟨rfl, hb3⟩
  obtain ⟨f0, f1, f2, f3, f4, f5, f6, f7, f8, f9⟩ := HBK.out w3 (HB2.out.trans (hb3.mono HB2.out.size))
  have HB03 := Lib.hid (HB02.out.trans (hb3.mono HB02.out.size))
  obtain ⟨b2, off2, hA2, -, q0, q1, q2⟩ := HTI.out w3 HB03.out
  rw [← HKD.out] at q1
  rw [hA2]
  clear hb3 d0 d1 d2 d3 d4 d5 d6 d7 d8 d9 p1 q0 q2 hA2
  go_wp2_with fail
  go_quiet (fail)
  go_wp2_with fail
  refine (HVL.out _).mono ?_
  rintro e w4 ⟨rfl, hb4⟩
  have HB4 := Lib.hid hb4
  clear hb4
  go_wp2_with fail
  go_ret
  exact ⟨rfl, (below_drewN HB03.out _).trans (HB4.out.mono HB03.out.size)⟩
end Go.Proofs.YtefifkleamiabaaGreatDoor

namespace Go.Proofs.YtefifkleamiabaaGreatDoor
open Go.RowKit

set_option maxRecDepth 100000 in
theorem indexFk0 (A : Option Addr) (c : Nat) (v : Value) (w : World) :
    Calls Tryz.prog 112 #[.slice A 0 c, v] w fun e w' => e = .returned (.int .i64 (-1)) ∧ w = w' := by
  go_enter Tryz.func112, Tryz.ntmps112
  go_wp2_with fail
  go_loopw [8] (fun vi wr => vi = .int .i64 0 ∧ w = wr) (fun _ _ => 0)
  case atStart => exact ⟨rfl, rfl⟩
  case round =>
    obtain ⟨rfl, rfl⟩ := hrel
    go_wp2_with fail
    go_ret
    exact ⟨rfl, rfl⟩
set_option maxRecDepth 100000 in
theorem containsFk0 (A : Option Addr) (c : Nat) (v : Value) (w : World) :
    Calls Tryz.prog 79 #[.slice A 0 c, v] w fun e w' => e = .returned (.bool false) ∧ w = w' := by
  have HI := Lib.hid (indexFk0 A c v w)
  go_enter Tryz.func79, Tryz.ntmps79
  go_wp2_with fail
  refine HI.out.mono ?_
  rintro e w' ⟨rfl, rfl⟩
  go_wp2_with fail
  go_ret
  exact ⟨rfl, rfl⟩
set_option maxRecDepth 100000 in
theorem indexCn0 (A : Option Addr) (c : Nat) (v : Cn) (w : World) :
    Calls Tryz.prog 115 #[.slice A 0 c, .agg v.cells] w fun e w' => e = .returned (.int .i64 (-1)) ∧ Below w.heap.size w w' := by
  have HB : Hid (∀ o, Below w.heap.size w (w.alloc o)) := Lib.hid fun o => (Below.refl _ _).alloc (Nat.le_refl _) o
  unfold Cn.cells
  go_enter Tryz.func115, Tryz.ntmps115
  go_wp2_with fail
  go_loopw [8] (fun vi wr => vi = .int .i64 0 ∧ Below w.heap.size w wr) (fun _ _ => 0)
  case atStart => exact ⟨rfl, HB.out _⟩
  case round =>
    obtain ⟨rfl, hb⟩ := hrel
    have HBR := Lib.hid hb
    clear hb
    go_wp2_with fail
    go_ret
    exact ⟨rfl, HBR.out⟩
set_option maxRecDepth 100000 in
theorem containsCn0 (A : Option Addr) (c : Nat) (v : Cn) (w : World) :
    Calls Tryz.prog 83 #[.slice A 0 c, .agg v.cells] w fun e w' => e = .returned (.bool false) ∧ Below w.heap.size w w' := by
  have HI := Lib.hid fun W => indexCn0 A c v W
  have HB : Hid (∀ o, Below w.heap.size w (w.alloc o)) := Lib.hid fun o => (Below.refl _ _).alloc (Nat.le_refl _) o
  unfold Cn.cells at HI ⊢
  go_enter Tryz.func83, Tryz.ntmps83
  go_wp2_with fail
  refine (HI.out _).mono ?_
  rintro e w' ⟨rfl, hb⟩
  have HBR := Lib.hid ((HB.out _).trans (hb.mono (HB.out _).size))
  clear hb
  go_wp2_with fail
  go_ret
  exact ⟨rfl, HBR.out⟩

/-- A valid schema. -/
structure SchV (s : Sc) : Prop where
  ntab : s.tabs.length ≤ 6
  tab : ∀ t ∈ s.tabs, TabV t
  ord : ∀ (i : Nat) (h : i + 1 < s.tabs.length), Op.bytesLess s.tabs[i + 1].name.toList s.tabs[i].name.toList = false ∧ (s.tabs[i + 1].name.toList == s.tabs[i].name.toList) = false
  nfk : s.fks.length ≤ 1
  fk : ∀ f ∈ s.fks, f.cols.length ≤ 1000 ∧ ∃ i k, FkV s f i k
  ncn : s.cns.length ≤ 1
  cn : ∀ c ∈ s.cns, ∃ i l, CnV s c i l

set_option maxRecDepth 100000 in
set_option maxHeartbeats 4000000 in
theorem schemaValidate (s : Sc) (w : World) (hs : ScOk (· < w.heap.size) w s) (hv : SchV s) :
    Calls Tryz.prog 44 #[s.v] w fun e w' => e = .returned (.int .i64 0) ∧ Below w.heap.size w w' := by
  have HS := Lib.hid hs
  have HV := Lib.hid hv
  have HVF := Lib.hid fun W (hW : Below w.heap.size w W) f (hf : f ∈ s.fks) => validateFk s f _ _ W (hs.on hW) ((hs.on hW).fk f hf) (hv.fk f hf).2.choose_spec.choose_spec (by have := hv.ntab; omega) (hv.fk f hf).1
  have HVC := Lib.hid fun W (hW : Below w.heap.size w W) c (hc : c ∈ s.cns) => validateCn s c _ _ W (hs.on hW) (hv.cn c hc).choose_spec.choose_spec (by have := hv.ntab; omega)
  obtain ⟨w1, hw1⟩ : ∃ w1, w1 = w.alloc (.cells s.cells 27) := ⟨_, rfl⟩
  have hb1 : Below w.heap.size w w1 := by rw [hw1]; exact (Below.refl _ _).alloc (Nat.le_refl _) _
  have hg0 : w1.heap[w.heap.size]? = some (.cells s.cells 27 (0, 0)) := by rw [hw1]; exact heap_alloc_new w _
  have hs1 : w.heap.size < w1.heap.size := by rw [hw1]; simp
  obtain ⟨n, hn⟩ : ∃ n, s.tabs.length = n := ⟨_, rfl⟩
  obtain ⟨nf, hnf⟩ : ∃ n, s.fks.length = n := ⟨_, rfl⟩
  obtain ⟨nc, hnc⟩ : ∃ n, s.cns.length = n := ⟨_, rfl⟩
  have HBK : Hid (∀ W, Below w1.heap.size w1 W → W.cell? ⟨w.heap.size, 0, none⟩ = some (.slice s.TA n s.tc) ∧ W.cell? ⟨w.heap.size, 1, none⟩ = some (.slice s.FA nf s.fc) ∧ W.cell? ⟨w.heap.size, 2, none⟩ = some (.slice s.NA nc s.nc)) := Lib.hid fun W hW => by
    have h0 := (hW.block w.heap.size hs1).trans hg0
    unfold Sc.cells at h0
    rw [hn, hnf, hnc] at h0
    exact ⟨by rw [cell_of_row _ _ _ _ _ _ h0]; rfl, by rw [cell_of_row _ _ _ _ _ _ h0]; rfl, by rw [cell_of_row _ _ _ _ _ _ h0]; rfl⟩
  have HB1 := Lib.hid hb1
  have HW1 := Lib.hid hw1
  have HSZ := Lib.hid hs1
  have HN := Lib.hid (And.intro hn (And.intro hnf hnc))
  have hn6 : n ≤ 6 := by rw [← hn]; exact hv.ntab
  have hnf1 : nf ≤ 1 := by rw [← hnf]; exact hv.nfk
  have hnc1 : nc ≤ 1 := by rw [← hnc]; exact hv.ncn
  obtain ⟨c0, c1, c2⟩ := HBK.out w1 (Below.refl _ _)
  unfold Sc.cells at HW1
  unfold Sc.v Sc.cells at HVF HVC ⊢
  rw [hn, hnf, hnc] at HVF HVC HW1 ⊢
  clear hs hv hw1 hb1 hg0 hs1 hn hnf hnc
  obtain ⟨TA, tc, tabs, FA, fc, fks, NA, ncc, cns⟩ := s
  simp only at *
  have hn6' : (n : Int) ≤ 6 := by omega
  have hnf8 : (nf : Int) ≤ 8 := by omega
  have hnc8 : (nc : Int) ≤ 8 := by omega
  go_enter Tryz.func44, Tryz.ntmps44
  go_upto_region 1 with fail
  rw [← HW1.out]
  go_wp2_with fail
  go_loopw [31] (fun vi wr => ∃ k : Nat, vi = .int .i64 (k : Int) ∧ k ≤ n ∧ Below w1.heap.size w1 wr) (fun vi _ => n - (intOf vi).toNat)
  case atStart => exact ⟨0, rfl, by omega, Below.refl _ _⟩
  case round =>
    obtain ⟨k, rfl, hkn, hb⟩ := hrel
    obtain ⟨wo, rfl⟩ : ∃ wo, wo = wr := ⟨_, rfl⟩
    have hbw : Below w.heap.size w wo := HB1.out.trans (hb.mono HB1.out.size)
    by_cases hlt : k < n
    · have hki : k < tabs.length := by have := HN.out.1; omega
      have htb := (HS.out.on hbw).tabs
      obtain ⟨b, off, hA, hbl, e0, e1, e2⟩ := htb.tbl hki
      have hA : TA = some ⟨b, off, none⟩ := hA
      have hvt := HV.out.tab _ (List.getElem_mem hki)
      have htok := (HS.out.on hbw).tab _ (List.getElem_mem hki)
      have hba : ∀ o, Below wo.heap.size wo (wo.alloc o) := fun o => (Below.refl _ _).alloc (Nat.le_refl _) o
      have HVT := Lib.hid fun o => validateTable tabs[k] (wo.alloc o) (htok.on (hba o)) hvt
      obtain ⟨f0, f1, f2⟩ := HBK.out wo hb
      have HBO := Lib.hid (And.intro hb hbw)
      have HBA := Lib.hid hba
      have hlt' : (k : Int) < (n : Int) := by omega
      rw [hA] at f0 ⊢
      clear hvt htok hba hb hbw hbl
      by_cases hk0 : k = 0
      · subst hk0
        generalize tabs[0] = t at *
        obtain ⟨tn, tCA, tcc, tcols, tPA, tpc, tpk⟩ := t
        unfold Tbl.val at HVT
        simp only at *
        rw [Nat.zero_mul, Nat.add_zero] at e0 e1 e2
        clear htb
        go_wp2_with fail
        refine (HVT.out _).mono ?_
        rintro e w3 ⟨rfl, hb3⟩
        have hbo : Below wo.heap.size wo w3 := (HBA.out _).trans (hb3.mono (HBA.out _).size)
        have HB3 := Lib.hid (HBO.out.1.trans (hbo.mono HBO.out.1.size))
        clear hb3 hbo
        go_wp2_with fail
        go_quiet (fail)
        go_wp2_with fail
        go_roundw
        case rel => exact ⟨1, by go_num, by omega, below_drewN HB3.out _⟩
        case measure => simp [intOf]; omega
      · obtain ⟨i, rfl⟩ : ∃ i, k = i + 1 := ⟨k - 1, by omega⟩
        have hii : i < tabs.length := by omega
        obtain ⟨b', off', hA', -, z0, -, -⟩ := htb.tbl hii
        rw [hA] at hA'
        injection hA' with hA'
        injection hA' with h1 h2
        subst h1 h2
        obtain ⟨hor1, hor2⟩ := HV.out.ord i hki
        simp only at hor1 hor2
        have HPV : Hid (∀ W, Below wo.heap.size wo W → W.cell? ⟨b, off + i * 3, none⟩ = some (.string tabs[i].name)) := Lib.hid fun W hW => by
          obtain ⟨b'', off'', hA'', -, y0, -, -⟩ := ((HS.out.on (HBO.out.2.trans (hW.mono HBO.out.2.size))).tabs).tbl hii
          have hA'' : TA = some ⟨b'', off'', none⟩ := hA''
          rw [hA] at hA''
          injection hA'' with hA''
          injection hA'' with h1 h2
          subst h1 h2
          exact y0
        have HBKA : Hid (∀ W, Below wo.heap.size wo W → W.cell? ⟨w.heap.size, 0, none⟩ = some (.slice (some ⟨b, off, none⟩) n tc)) := Lib.hid fun W hW => by
          have h := (HBK.out W (HBO.out.1.trans (hW.mono HBO.out.1.size))).1
          rwa [hA] at h
        clear htb z0
        generalize tabs[i].name = pn at *
        generalize tabs[i + 1] = t at *
        obtain ⟨tn, tCA, tcc, tcols, tPA, tpc, tpk⟩ := t
        unfold Tbl.val at HVT
        simp only at *
        have hj1 : (0 : Int) < ((i + 1 : Nat) : Int) := by omega
        have hj2 : ((i + 1 : Nat) : Int) - 1 = (i : Int) := by omega
        have hj3 : (i : Int) < (n : Int) := by omega
        go_wp2_with fail
        refine (HVT.out _).mono ?_
        rintro e w3 ⟨rfl, hb3⟩
        have hbo : Below wo.heap.size wo w3 := (HBA.out _).trans (hb3.mono (HBA.out _).size)
        have hcv : w3.heap[wo.heap.size]? = some (.cells #[.string tn, .slice tCA tcols.length tcc, .slice tPA tpk.length tpc] 71 (0, 0)) := (hb3.block wo.heap.size (by simp)).trans (heap_alloc_new wo _)
        have v0 : w3.cell? ⟨wo.heap.size, 0, none⟩ = some (.string tn) := by rw [cell_of_row _ _ _ _ _ _ hcv]; rfl
        have v1 := HPV.out w3 hbo
        have v2 := HBKA.out w3 hbo
        have HB3 := Lib.hid (HBO.out.1.trans (hbo.mono HBO.out.1.size))
        clear hb3 hbo hcv
        go_wp2_with fail
        go_quiet (fail)
        go_wp2_with fail
        go_roundw
        case rel => exact ⟨i + 1 + 1, by go_num, by omega, below_drewN HB3.out _⟩
        case measure => simp [intOf]; omega
    · have hkn' : k = n := by omega
      subst hkn'
      obtain ⟨f0, f1, f2⟩ := HBK.out wo hb
      have HBO := Lib.hid hb
      clear hb hbw
      go_wp2_with fail
      go_loopw [59] (fun vi wr => ∃ j : Nat, vi = .int .i64 (j : Int) ∧ j ≤ nf ∧ Below w1.heap.size w1 wr) (fun vi _ => nf - (intOf vi).toNat)
      case atStart => exact ⟨0, rfl, by omega, HBO.out⟩
      case round =>
        obtain ⟨j, rfl, hjn, hb⟩ := hrel
        obtain ⟨wi, rfl⟩ : ∃ wi, wi = wr := ⟨_, rfl⟩
        have hbw : Below w.heap.size w wi := HB1.out.trans (hb.mono HB1.out.size)
        by_cases hlt : j < nf
        · have hj0 : j = 0 := by omega
          subst hj0
          have hji : 0 < fks.length := by have := HN.out.2.1; omega
          obtain ⟨b, off, hA, hbl, e0, e1, e2⟩ := (HS.out.on hbw).fks.fkm hji
          have hA : FA = some ⟨b, off, none⟩ := hA
          have hba : ∀ o, Below wi.heap.size wi (wi.alloc o) := fun o => (Below.refl _ _).alloc (Nat.le_refl _) o
          have HVT := Lib.hid fun o => HVF.out (wi.alloc o) (hbw.trans ((hba o).mono hbw.size)) fks[0] (List.getElem_mem hji)
          obtain ⟨g0, g1, g2⟩ := HBK.out wi hb
          have g0a := fun o => (HBK.out (wi.alloc o) (hb.trans ((hba o).mono hb.size))).1
          have g1a := fun o => (HBK.out (wi.alloc o) (hb.trans ((hba o).mono hb.size))).2.1
          have g2a := fun o => (HBK.out (wi.alloc o) (hb.trans ((hba o).mono hb.size))).2.2
          have HBI := Lib.hid (And.intro hb hbw)
          have HBA := Lib.hid hba
          have hlt' : (0 : Int) < (nf : Int) := by omega
          have hcapf : (0 : Int) ≤ (fc : Int) := by omega
          clear hb hbw hba hbl
          generalize fks[0] = f at *
          obtain ⟨fn, fA, fcc, fcols, fr⟩ := f
          unfold FkM.val at HVT
          simp only at *
          rw [Nat.zero_mul, Nat.add_zero] at e0 e1 e2
          rw [hA] at g1 HVT g1a ⊢
          clear hA
          go_wp2_with fail
          refine (HVT.out _).mono ?_
          rintro e w3 ⟨rfl, hb3⟩
          have hbo : Below wi.heap.size wi w3 := (HBA.out _).trans (hb3.mono (HBA.out _).size)
          have hb13 := HBI.out.1.trans (hbo.mono HBI.out.1.size)
          obtain ⟨y0, y1, y2⟩ := HBK.out w3 hb13
          have HB3 := Lib.hid hb13
          clear hb3 hbo hb13
          go_wp2_with fail
          refine (containsFk0 _ _ _ _).mono ?_
          rintro e w4 ⟨rfl, rfl⟩
          go_wp2_with fail
          go_roundw
          case rel => exact ⟨1, by go_num, by omega, HB3.out⟩
          case measure => simp [intOf]; omega
        · have hjn' : j = nf := by omega
          subst hjn'
          obtain ⟨g0, g1, g2⟩ := HBK.out wi hb
          have HBI := Lib.hid hb
          clear hb hbw
          go_wp2_with fail
          go_loopw [80] (fun vi wr => ∃ i : Nat, vi = .int .i64 (i : Int) ∧ i ≤ nc ∧ Below w1.heap.size w1 wr) (fun vi _ => nc - (intOf vi).toNat)
          case atStart => exact ⟨0, rfl, by omega, HBI.out⟩
          case round =>
            obtain ⟨i, rfl, hin, hb⟩ := hrel
            obtain ⟨wj, rfl⟩ : ∃ wj, wj = wr := ⟨_, rfl⟩
            have hbw : Below w.heap.size w wj := HB1.out.trans (hb.mono HB1.out.size)
            by_cases hlt3 : i < nc
            · have hi0 : i = 0 := by omega
              subst hi0
              have hji : 0 < cns.length := by have := HN.out.2.2; omega
              obtain ⟨b, off, hA, hbl, e0, e1, e2, e3, e4, e5, e6⟩ := (HS.out.on hbw).cns.cn hji
              have hA : NA = some ⟨b, off, none⟩ := hA
              have hba : ∀ o, Below wj.heap.size wj (wj.alloc o) := fun o => (Below.refl _ _).alloc (Nat.le_refl _) o
              have HVT := Lib.hid fun o => HVC.out (wj.alloc o) (hbw.trans ((hba o).mono hbw.size)) cns[0] (List.getElem_mem hji)
              obtain ⟨k0, k1, k2⟩ := HBK.out wj hb
              have k0a := fun o => (HBK.out (wj.alloc o) (hb.trans ((hba o).mono hb.size))).1
              have k1a := fun o => (HBK.out (wj.alloc o) (hb.trans ((hba o).mono hb.size))).2.1
              have k2a := fun o => (HBK.out (wj.alloc o) (hb.trans ((hba o).mono hb.size))).2.2
              have HBJ := Lib.hid (And.intro hb hbw)
              have HBA := Lib.hid hba
              have hlt' : (0 : Int) < (nc : Int) := by omega
              clear hb hbw hba hbl
              have HCC := Lib.hid fun W => containsCn0 NA ncc cns[0] W
              generalize cns[0] = cn at *
              obtain ⟨cnm, cl, cop, cr, cvk, cvi, cvt⟩ := cn
              unfold Cn.cells at HVT HCC
              simp only at *
              rw [Nat.zero_mul, Nat.add_zero] at e0 e1 e2 e3 e4 e5 e6
              rw [hA] at k2 HVT k2a HCC ⊢
              clear hA
              go_wp2_with fail
              refine (HVT.out _).mono ?_
              rintro e w3 ⟨rfl, hb3⟩
              have hbo : Below wj.heap.size wj w3 := (HBA.out _).trans (hb3.mono (HBA.out _).size)
              have hb13 := HBJ.out.1.trans (hbo.mono HBJ.out.1.size)
              obtain ⟨y0, y1, y2⟩ := HBK.out w3 hb13
              have hcv : w3.heap[wj.heap.size]? = some (.cells #[.string cnm, .int .i64 cl, .string cop, .int .i64 cr, .int .i64 cvk, .int .i64 cvi, .string cvt] 62 (0, 0)) := (hb3.block wj.heap.size (by simp)).trans (heap_alloc_new wj _)
              have v0 : w3.cell? ⟨wj.heap.size, 0, none⟩ = some (.string cnm) := by rw [cell_of_row _ _ _ _ _ _ hcv]; rfl
              have v1 : w3.cell? ⟨wj.heap.size, 1, none⟩ = some (.int .i64 cl) := by rw [cell_of_row _ _ _ _ _ _ hcv]; rfl
              have v2 : w3.cell? ⟨wj.heap.size, 2, none⟩ = some (.string cop) := by rw [cell_of_row _ _ _ _ _ _ hcv]; rfl
              have v3 : w3.cell? ⟨wj.heap.size, 3, none⟩ = some (.int .i64 cr) := by rw [cell_of_row _ _ _ _ _ _ hcv]; rfl
              have v4 : w3.cell? ⟨wj.heap.size, 4, none⟩ = some (.int .i64 cvk) := by rw [cell_of_row _ _ _ _ _ _ hcv]; rfl
              have v5 : w3.cell? ⟨wj.heap.size, 5, none⟩ = some (.int .i64 cvi) := by rw [cell_of_row _ _ _ _ _ _ hcv]; rfl
              have v6 : w3.cell? ⟨wj.heap.size, 6, none⟩ = some (.string cvt) := by rw [cell_of_row _ _ _ _ _ _ hcv]; rfl
              have HB3 := Lib.hid hb13
              clear hb3 hbo hb13 hcv
              go_upto_region 27 with fail
              go_region_law (first
                | (go_simp; go_at_call 83; refine (HCC.out (w3.drewN 1)).mono ?_; rintro e w4 ⟨rfl, hb4⟩))
              all_goals
                have HB4 := Lib.hid ((below_drewN HB3.out 1).trans (hb4.mono (below_drewN HB3.out 1).size))
                clear hb4
                go_wp2_with fail
                go_roundw
                case rel => exact ⟨1, by go_num, by omega, HB4.out⟩
                case measure => simp [intOf]; omega
            · have hin' : i = nc := by omega
              subst hin'
              have HBE := Lib.hid hbw
              clear hb hbw
              go_wp2_with fail
              go_ret
              exact ⟨rfl, HBE.out⟩
end Go.Proofs.YtefifkleamiabaaGreatDoor

namespace Go.Proofs.YtefifkleamiabaaGreatDoor
open Go.RowKit

theorem elem_val : ElemT Tryz.prog 48 60 3 32 := ⟨Tryz.underlying48, by
  have h : (Tryz.prog.info? 60).map (fun i => (i.zero, i.size, i.bytes)) = some (some (.agg #[.int .i64 0, .int .i64 0, .string ByteArray.empty]), 3, 32) := by kernel_rfl
  obtain ⟨i0, hi, hz0, hz1, hz2⟩ := info_parts h
  exact ⟨i0, _, hi, hz0, hz1, hz2, rfl⟩, by omega⟩

theorem keyOf_take {pk : List Int} {row : Row} {k : Nat} (hk : k < pk.length) : keyOf (pk.take (k + 1)) row = keyOf (pk.take k) row ++ [keyAt row pk[k]] := by
  unfold keyOf
  rw [List.take_succ_eq_append_getElem hk, List.map_append]
  rfl

set_option maxRecDepth 100000 in
set_option maxHeartbeats 1000000 in
theorem relKey (t : Tbl) (A : Option Addr) (c : Nat) (row : Row) (w : World) (ht : TOk (· < w.heap.size) w t) (hx : Elems 3 Val.cs w (· < w.heap.size) A row) (hp : t.pk.length ≤ 1000) :
    Calls Tryz.prog 70 #[t.val, .slice A row.length c] w fun e w' => ∃ v, e = .returned v ∧ Own 3 Val.cs 60 w.heap.size w' v (keyOf t.pk row) ∧ Below w.heap.size w w' := by
  obtain ⟨name, CA, cc, cols, PA, pc, pk⟩ := t
  have HP := Lib.hid ht.pk
  have HX := Lib.hid hx
  obtain ⟨n, hn⟩ : ∃ n, pk.length = n := ⟨_, rfl⟩
  have hp : pk.length ≤ 1000 := hp
  unfold Tbl.val
  simp only
  rw [hn] at hp ⊢
  have HN := Lib.hid hn
  have HB : Hid (∀ o, Below w.heap.size w (w.alloc o)) := Lib.hid fun o => (Below.refl _ _).alloc (Nat.le_refl _) _
  clear ht hx hn
  go_enter Tryz.func70, Tryz.ntmps70
  go_wp2_with fail
  go_loopw [5, 12] (fun v5 vi wr => ∃ k : Nat, vi = .int .i64 (k : Int) ∧ k ≤ n ∧ Own 3 Val.cs 60 w.heap.size wr v5 (keyOf (pk.take k) row) ∧ Below w.heap.size w wr) (fun _ vi _ => n - (intOf vi).toNat)
  case atStart => exact ⟨0, rfl, by omega, Own.nil _, HB.out _⟩
  case round =>
    obtain ⟨k, rfl, hkn, ho, hb⟩ := hrel
    by_cases hlt : k < n
    · have hki : k < pk.length := by have := HN.out; omega
      obtain ⟨b, off, rfl, hbs, c0⟩ := (HP.out.on hb).int hki
      have HKO := Lib.hid (keyOf_take (row := row) hki)
      have HX1 := Lib.hid (HX.out.on hb)
      have hki' : (k : Int) < (n : Int) := by omega
      generalize pk[k] = col at *
      have HL1 : Hid (((keyOf (pk.take k) row).length + 1) * 32 ≤ 140737488355328) := Lib.hid (by unfold keyOf; rw [List.length_map, List.length_take]; omega)
      have HL2 : Hid ((keyOf (pk.take k) row).length + 1 ≤ maxLen) := Lib.hid (by unfold keyOf maxLen; rw [List.length_map, List.length_take]; omega)
      have HO1 : Hid (∀ o, Own 3 Val.cs 60 w.heap.size (wr.alloc o) u5 (keyOf (pk.take k) row)) := Lib.hid fun o => ho.alloc o
      have HS1 : Hid (∀ o, w.heap.size ≤ (wr.alloc o).heap.size) := Lib.hid fun o => le_size1 hb.size o
      have HFR : Hid (∀ o w2 v2, Ext (wr.alloc o) u5 w2 v2 → Below w.heap.size w w2) := Lib.hid fun o w2 v2 hx => (hb.alloc hb.size o).trans (hx.below (le_size1 hb.size o) fun g hg => (ho.lt g hg).1)
      have hcrow : ∀ o, Elems 3 Val.cs (wr.alloc o) (fun k => k < (wr.alloc o).heap.size) A row := fun o => HX1.out.on ((Below.refl _ _).alloc (Nat.le_refl _) o)
      by_cases hin : 0 ≤ col ∧ col < (row.length : Int)
      · obtain ⟨j, rfl⟩ := Int.eq_ofNat_of_zero_le hin.1
        have hj : j < row.length := by omega
        have hka : keyAt row (j : Int) = row[j] := by
          unfold keyAt
          rw [if_pos hin, Int.toNat_natCast, List.getD_eq_getElem?_getD, List.getElem?_eq_getElem hj]
          rfl
        have HKA := Lib.hid hka
        obtain ⟨b', off', rfl, hbs', -⟩ := HX1.out.val hj
        have e0 : ∀ o, (wr.alloc o).cell? ⟨b', off' + j * 3, none⟩ = some (.int .i64 row[j].kind) ∧ (wr.alloc o).cell? ⟨b', off' + j * 3 + 1, none⟩ = some (.int .i64 row[j].int) ∧ (wr.alloc o).cell? ⟨b', off' + j * 3 + 2, none⟩ = some (.string row[j].text) := fun o => by
          obtain ⟨b'', off'', e, -, h⟩ := (hcrow o).val hj
          injection e with e
          injection e with e1 e2
          subst e1 e2
          exact h
        have d0 := fun o => (e0 o).1
        have d1 := fun o => (e0 o).2.1
        have d2 := fun o => (e0 o).2.2
        have hj2 : (j : Int) < (row.length : Int) := hin.2
        have HB2 := Lib.hid hb
        clear hka hin ho e0 hcrow hbs' hb
        generalize row[j] = x at *
        go_wp2_with (at_builtin; refine wpList_app rfl (.tmp 29) (.tmp 31) _ _ rfl rfl rfl (run_push elem_val valLay _ _ _ (keyOf (pk.take k) row) x _ (HO1.out _) rfl HL1.out HL2.out (HS1.out _) (size1 _ _)) ?_; rintro v2 w2 ⟨ho2, hx2⟩)
        have HF : Hid (Own 3 Val.cs 60 w.heap.size w2 v2 (keyOf (pk.take (k + 1)) row) ∧ Below w.heap.size w w2) := Lib.hid ⟨by rw [HKO.out, HKA.out]; exact ho2, HFR.out _ _ _ hx2⟩
        clear ho2 hx2
        go_wp2_with fail
        go_roundw
        case rel => exact ⟨k + 1, by go_num, by omega, HF.out.1, HF.out.2⟩
        case measure => simp [intOf]; omega
      · have HKA : Hid (keyAt row col = zeroV) := Lib.hid (if_neg hin)
        rcases Int.lt_or_le col 0 with hc | hc
        · clear hin hb ho hcrow
          go_wp2_with (at_builtin; refine wpList_app rfl (.tmp 29) (.tmp 31) _ _ rfl rfl rfl (run_push elem_val valLay _ _ _ (keyOf (pk.take k) row) zeroV _ (HO1.out _) rfl HL1.out HL2.out (HS1.out _) (size1 _ _)) ?_; rintro v2 w2 ⟨ho2, hx2⟩)
          have HF : Hid (Own 3 Val.cs 60 w.heap.size w2 v2 (keyOf (pk.take (k + 1)) row) ∧ Below w.heap.size w w2) := Lib.hid ⟨by rw [HKO.out, HKA.out]; exact ho2, HFR.out _ _ _ hx2⟩
          clear ho2 hx2
          go_wp2_with fail
          go_roundw
          case rel => exact ⟨k + 1, by go_num, by omega, HF.out.1, HF.out.2⟩
          case measure => simp [intOf]; omega
        · have hc2 : (row.length : Int) ≤ col := by omega
          clear hin hb ho hcrow
          go_wp2_with (at_builtin; refine wpList_app rfl (.tmp 29) (.tmp 31) _ _ rfl rfl rfl (run_push elem_val valLay _ _ _ (keyOf (pk.take k) row) zeroV _ (HO1.out _) rfl HL1.out HL2.out (HS1.out _) (size1 _ _)) ?_; rintro v2 w2 ⟨ho2, hx2⟩)
          have HF : Hid (Own 3 Val.cs 60 w.heap.size w2 v2 (keyOf (pk.take (k + 1)) row) ∧ Below w.heap.size w w2) := Lib.hid ⟨by rw [HKO.out, HKA.out]; exact ho2, HFR.out _ _ _ hx2⟩
          clear ho2 hx2
          go_wp2_with fail
          go_roundw
          case rel => exact ⟨k + 1, by go_num, by omega, HF.out.1, HF.out.2⟩
          case measure => simp [intOf]; omega
    · have hkn' : k = n := by omega
      subst hkn'
      have HF : Hid (Own 3 Val.cs 60 w.heap.size wr u5 (keyOf pk row) ∧ Below w.heap.size w wr) := Lib.hid ⟨by rwa [List.take_of_length_le (by have := HN.out; omega)] at ho, hb⟩
      clear ho hb
      go_wp2_with fail
      go_ret
      exact ⟨_, rfl, HF.out.1, HF.out.2⟩

end Go.Proofs.YtefifkleamiabaaGreatDoor

namespace Go.Proofs.YtefifkleamiabaaGreatDoor
open Go.RowKit Go.Sort

def col0 : Col := ⟨ByteArray.empty, 0, false⟩
/-- The value fits the column. -/
def colOk (c : Col) (v : Val) : Prop := (v.kind = c.kind ∧ v.kind ≠ 0) ∨ (v.kind = 0 ∧ c.null = true)
theorem cmpKeys (a b : Key) (w : World) (ha : KOk (· < w.heap.size) w a) (hb : KOk (· < w.heap.size) w b) :
    Calls Tryz.prog 69 #[.slice a.A a.row.length a.c, .slice b.A b.row.length b.c] w fun e w' => e = .returned (.int .i64 (cmpR a.row b.row)) ∧ Below w.heap.size w w' :=
  (cmpRows a.A b.A a.c b.c a.row b.row w _ _ ha.el hb.el (fun _ h => h) (fun _ h => h) (by have := ha.len; omega)).mono fun e w' ⟨h1, p, h2⟩ => ⟨h1, by rw [h2]; exact below_grow w p.n p.os⟩

end Go.Proofs.YtefifkleamiabaaGreatDoor

namespace Go.Proofs.YtefifkleamiabaaGreatDoor
open Go.RowKit Go.Sort

/-- A relation: its table's name and its rows. -/
structure RelM where
  name : ByteArray
  A : Option Addr
  c : Nat
  rows : List Key
def RelM.cs (r : RelM) : List Value := [.string r.name, .slice r.A r.rows.length r.c]
theorem relLay : Lay 2 RelM.cs := ⟨fun _ => rfl, fun x c hc => by simp [RelM.cs] at hc; rcases hc with rfl | rfl <;> rfl⟩
/-- Its data. -/
def RelM.d (r : RelM) : ByteArray × List Row := (r.name, r.rows.map Key.row)
theorem Elems.rel {w : World} {S : Nat → Prop} {A : Option Addr} {r : List RelM} {k : Nat} (h : Elems 2 RelM.cs w S A r) (hk : k < r.length) : ∃ b off, A = some ⟨b, off, none⟩ ∧ S b ∧ w.cell? ⟨b, off + k * 2, none⟩ = some (.string r[k].name) ∧ w.cell? ⟨b, off + k * 2 + 1, none⟩ = some (.slice r[k].A r[k].rows.length r[k].c) := by
  obtain ⟨b, off, e, hb, hc⟩ := h.at_ hk
  exact ⟨b, off, e, hb, hc 0 _ rfl, hc 1 _ rfl⟩
/-- The rows of a table in memory. -/
structure RsOk (S : Nat → Prop) (w : World) (A : Option Addr) (ks : List Key) : Prop where
  el : Elems 1 Key.cs w S A ks
  row : ∀ k ∈ ks, KOk S w k
structure InOk (S : Nat → Prop) (w : World) (A : Option Addr) (rs : List RelM) : Prop where
  el : Elems 2 RelM.cs w S A rs
  rel : ∀ r ∈ rs, RsOk S w r.A r.rows
section
variable {S S' : Nat → Prop} {w w' : World} {A : Option Addr} {ks : List Key} {rs : List RelM}
theorem RsOk.keep (h : RsOk S w A ks) (hk : Keeps S w w') : RsOk S w' A ks := ⟨h.el.keep hk, fun k hm => (h.row k hm).keep hk⟩
theorem RsOk.more (h : RsOk S w A ks) (hs : ∀ k, S k → S' k) : RsOk S' w A ks := ⟨h.el.more hs, fun k hm => (h.row k hm).more hs⟩
theorem RsOk.on (h : RsOk (· < w.heap.size) w A ks) (hb : Below w.heap.size w w') : RsOk (· < w'.heap.size) w' A ks := (h.keep (Keeps.of_below hb fun _ h => h)).more fun _ hk => Nat.lt_of_lt_of_le hk hb.size
theorem InOk.keep (h : InOk S w A rs) (hk : Keeps S w w') : InOk S w' A rs := ⟨h.el.keep hk, fun r hm => (h.rel r hm).keep hk⟩
theorem InOk.more (h : InOk S w A rs) (hs : ∀ k, S k → S' k) : InOk S' w A rs := ⟨h.el.more hs, fun r hm => (h.rel r hm).more hs⟩
theorem InOk.on (h : InOk (· < w.heap.size) w A rs) (hb : Below w.heap.size w w') : InOk (· < w'.heap.size) w' A rs := (h.keep (Keeps.of_below hb fun _ h => h)).more fun _ hk => Nat.lt_of_lt_of_le hk hb.size
end

/-- A row that fits the columns. -/
structure RowC (cols : List Col) (r : Row) : Prop where
  len : r.length = cols.length
  err : ∀ v ∈ r, v.err = 0
  col : ∀ (i : Nat) (h : i < r.length), colOk (cols.getD i col0) r[i]

set_option maxRecDepth 100000 in
set_option maxHeartbeats 4000000 in
theorem conformsRow (t : Tbl) (A : Option Addr) (c : Nat) (r : Row) (w : World) (ht : TOk (· < w.heap.size) w t) (hx : Elems 3 Val.cs w (· < w.heap.size) A r) (h6 : t.cols.length ≤ 1000) (hr : RowC t.cols r) :
    Calls Tryz.prog 68 #[t.val, .slice A r.length c] w fun e w' => e = .returned (.int .i64 0) ∧ Below w.heap.size w w' := by
  obtain ⟨name, CA, cc, tc, PA, pc, pk⟩ := t
  have HC := Lib.hid ht.cols
  have HX := Lib.hid hx
  have HR := Lib.hid hr
  obtain ⟨n, hn⟩ : ∃ n, tc.length = n := ⟨_, rfl⟩
  have hrn : r.length = n := by rw [← hn]; exact hr.len
  have h6 : n ≤ 1000 := by rw [← hn]; exact h6
  unfold Tbl.val
  simp only
  rw [hrn, hn]
  have HN := Lib.hid (And.intro hn hrn)
  obtain ⟨w1, hw1⟩ : ∃ w1, w1 = w.alloc (.cells #[.string name, .slice CA n cc, .slice PA pk.length pc] 71) := ⟨_, rfl⟩
  have hbx := heap_alloc_new w (.cells #[.string name, .slice CA n cc, .slice PA pk.length pc] 71)
  rw [← hw1] at hbx
  have hb1 : Below w.heap.size w w1 := by rw [hw1]; exact (Below.refl _ _).alloc (Nat.le_refl _) _
  have hs1 : w.heap.size < w1.heap.size := by rw [hw1]; simp
  have HBK : Hid (∀ W, Below w1.heap.size w1 W → W.cell? ⟨w.heap.size, 1, none⟩ = some (.slice CA n cc)) := Lib.hid fun W hW => by
    rw [cell_of_row _ _ _ _ _ _ ((hW.block w.heap.size hs1).trans hbx)]
    rfl
  have HB1 := Lib.hid hb1
  have HW1 := Lib.hid hw1
  have c1 := HBK.out w1 (Below.refl _ _)
  have HVL := Lib.hid fun k n s W => validate k n s W
  clear ht hx hr hn hrn hw1 hbx hb1 hs1
  go_enter Tryz.func68, Tryz.ntmps68
  go_upto_region 1 with fail
  rw [← HW1.out]
  go_wp2_with fail
  go_loopw [16] (fun vi wr => ∃ k : Nat, vi = .int .i64 (k : Int) ∧ k ≤ n ∧ Below w1.heap.size w1 wr) (fun vi _ => n - (intOf vi).toNat)
  case atStart => exact ⟨0, rfl, by omega, Below.refl _ _⟩
  case round =>
    obtain ⟨k, rfl, hkn, hb⟩ := hrel
    obtain ⟨wo, rfl⟩ : ∃ wo, wo = wr := ⟨_, rfl⟩
    have hbw : Below w.heap.size w wo := HB1.out.trans (hb.mono HB1.out.size)
    by_cases hlt : k < n
    · have hkr : k < r.length := by have := HN.out; omega
      have hkc : k < tc.length := by have := HN.out; omega
      have hxr := HX.out.on hbw
      have hco := HR.out.col k hkr
      have hgd : tc.getD k col0 = tc[k] := by rw [List.getD_eq_getElem?_getD, List.getElem?_eq_getElem hkc]; rfl
      have hco : colOk tc[k] r[k] := hgd ▸ hco
      have her : vErr r[k].kind r[k].int r[k].text = 0 := HR.out.err _ (List.getElem_mem hkr)
      obtain ⟨b', off', hA', -, p0, p1, p2⟩ := hxr.val hkr
      have hba : ∀ o, Below wo.heap.size wo (wo.alloc o) := fun o => (Below.refl _ _).alloc (Nat.le_refl _) o
      have HCC : Hid (∀ W, Below wo.heap.size wo W → ∃ b off, CA = some ⟨b, off, none⟩ ∧ W.cell? ⟨b, off + k * 3 + 1, none⟩ = some (.int .i64 tc[k].kind) ∧ W.cell? ⟨b, off + k * 3 + 2, none⟩ = some (.bool tc[k].null) ∧ W.cell? ⟨w.heap.size, 1, none⟩ = some (.slice CA n cc)) := Lib.hid fun W hW => by
        obtain ⟨b, off, hA, -, q0, q1, q2⟩ := (HC.out.on (hbw.trans (hW.mono hbw.size))).col hkc
        exact ⟨b, off, hA, q1, q2, HBK.out W (hb.trans (hW.mono hb.size))⟩
      have HV := Lib.hid fun o => HVL.out r[k].kind r[k].int r[k].text (wo.alloc o)
      rw [her] at HV
      have hkn' : (k : Int) < (n : Int) := by omega
      have HBO := Lib.hid hb
      have HBA := Lib.hid hba
      rw [hA']
      clear hb hbw hxr hgd her hA' hba HVL
      generalize tc[k] = cl at *
      generalize r[k] = v at *
      have hcl : (v.kind ≠ 0 ∧ v.kind = cl.kind) ∨ (v.kind = 0 ∧ cl.null = true) := by
        rcases hco with ⟨h1, h2⟩ | ⟨h1, h2⟩
        · exact .inl ⟨h2, h1⟩
        · exact .inr ⟨h1, h2⟩
      clear hco
      rcases hcl with ⟨h1, h2⟩ | ⟨h1, h2⟩
      · have g1 : (v.kind == 0) = false := by simp [h1]
        have g2 : (v.kind != 0) = true := by simp [h1]
        have g3 : (v.kind != cl.kind) = false := by simp [h2]
        clear h1 h2
        go_wp2_with fail
        refine (HV.out _).mono ?_
        rintro e w3 ⟨rfl, hb3⟩
        have hbo : Below wo.heap.size wo w3 := (HBA.out _).trans (hb3.mono (HBA.out _).size)
        have hcv : w3.heap[wo.heap.size]? = some (.cells #[.int .i64 v.kind, .int .i64 v.int, .string v.text] 60 (0, 0)) := (hb3.block wo.heap.size (by simp)).trans (heap_alloc_new wo _)
        have v0 : w3.cell? ⟨wo.heap.size, 0, none⟩ = some (.int .i64 v.kind) := by rw [cell_of_row _ _ _ _ _ _ hcv]; rfl
        obtain ⟨b, off, rfl, q1, q2, q3⟩ := HCC.out w3 hbo
        have HB3 := Lib.hid (HBO.out.trans (hbo.mono HBO.out.size))
        clear hb3 hbo hcv
        go_wp2_with fail
        go_quiet (fail)
        go_wp2_with fail
        go_roundw
        case rel => exact ⟨k + 1, by go_num, by omega, below_drewN HB3.out _⟩
        case measure => simp [intOf]; omega
      · have g1 : (v.kind == 0) = true := by simp [h1]
        have g2 : (v.kind != 0) = false := by simp [h1]
        clear h1
        go_wp2_with fail
        refine (HV.out _).mono ?_
        rintro e w3 ⟨rfl, hb3⟩
        have hbo : Below wo.heap.size wo w3 := (HBA.out _).trans (hb3.mono (HBA.out _).size)
        have hcv : w3.heap[wo.heap.size]? = some (.cells #[.int .i64 v.kind, .int .i64 v.int, .string v.text] 60 (0, 0)) := (hb3.block wo.heap.size (by simp)).trans (heap_alloc_new wo _)
        have v0 : w3.cell? ⟨wo.heap.size, 0, none⟩ = some (.int .i64 v.kind) := by rw [cell_of_row _ _ _ _ _ _ hcv]; rfl
        obtain ⟨b, off, rfl, q1, q2, q3⟩ := HCC.out w3 hbo
        rw [h2] at q2
        have HB3 := Lib.hid (HBO.out.trans (hbo.mono HBO.out.size))
        clear hb3 hbo hcv h2
        go_wp2_with fail
        go_quiet (fail)
        go_wp2_with fail
        go_roundw
        case rel => exact ⟨k + 1, by go_num, by omega, below_drewN HB3.out _⟩
        case measure => simp [intOf]; omega
    · have hkn' : k = n := by omega
      subst hkn'
      have HE := Lib.hid hbw
      clear hb hbw
      go_wp2_with fail
      go_ret
      exact ⟨rfl, HE.out⟩
end Go.Proofs.YtefifkleamiabaaGreatDoor

namespace Go.Proofs.YtefifkleamiabaaGreatDoor
open Go.RowKit Go.Sort

theorem elem_ints : ElemT Tryz.prog 22 3 1 8 := ⟨Tryz.underlying22, by
  have h : (Tryz.prog.info? 3).map (fun i => (i.zero, i.size, i.bytes)) = some (some (.int .i64 0), 1, 8) := by kernel_rfl
  obtain ⟨i0, hi, hz0, hz1, hz2⟩ := info_parts h
  exact ⟨i0, _, hi, hz0, hz1, hz2, rfl⟩, by omega⟩
theorem elem_cols : ElemT Tryz.prog 69 68 3 32 := ⟨Tryz.underlying69, by
  have h : (Tryz.prog.info? 68).map (fun i => (i.zero, i.size, i.bytes)) = some (some (.agg #[.string ByteArray.empty, .int .i64 0, .bool false]), 3, 32) := by kernel_rfl
  obtain ⟨i0, hi, hz0, hz1, hz2⟩ := info_parts h
  exact ⟨i0, _, hi, hz0, hz1, hz2, rfl⟩, by omega⟩

set_option maxRecDepth 100000 in
theorem cloneRow (A : Option Addr) (n c : Nat) (xs : List Val) (w : World) (S : Nat → Prop) (hx : Elems 3 Val.cs w S A xs) (hS : ∀ k, S k → k < w.heap.size) (hn : n = xs.length) (hs : xs.length ≤ 100000) :
    Calls Tryz.prog 76 #[.slice A n c] w fun e w' => ∃ v, e = .returned v ∧ Own 3 Val.cs 60 w.heap.size w' v xs ∧ Below w.heap.size w w' := by
  have hnil := fun W => Lib.run_eql_slice_nil (P := Tryz.prog) W 48 60 A n c 0 0 Tryz.underlying48
  cases A with
  | none =>
    have h0 : xs = [] := by
      rcases Nat.eq_zero_or_pos xs.length with h | h
      · exact List.eq_nil_of_length_eq_zero h
      · obtain ⟨_, _, h', _⟩ := hx h; cases h'
    subst h0
    simp only [Option.isNone_none, List.length_nil] at hnil hn
    subst hn
    go_enter Tryz.func76, Tryz.ntmps76
    go_wp2_with fail
    go_ret
    exact ⟨_, rfl, Own.nil _, Below.refl _ _⟩
  | some a =>
    simp only [Option.isNone_some] at hnil
    have HX := Lib.hid (hx.keep (w' := w.alloc (.cells #[] 60)) fun k hk => Below.heap_alloc _ _ _ (hS k hk))
    have hB : w.heap.size ≤ (w.alloc (.cells #[] 60)).heap.size := by simp
    have H1 : Hid ((([] : List Val).length + xs.length) * 32 ≤ 140737488355328) := Lib.hid (by simp; omega)
    have H2 : Hid (([] : List Val).length + xs.length ≤ maxLen) := Lib.hid (by unfold maxLen; simp; omega)
    have HN := Lib.hid hn
    clear hx hs hn
    go_enter Tryz.func76, Tryz.ntmps76
    go_wp2_with (at_builtin; refine wpList_app rfl (.tmp 5) (.tmp 6) _ _ rfl rfl rfl (run_pushs elem_val valLay _ (w.alloc (.cells #[] 60)) _ ([] : List Val) (Own.lit0 w) HX.out HN.out H1.out H2.out hB) ?_; rintro v1 w1 ⟨ho1, hx1⟩)
    go_ret
    exact ⟨_, rfl, by simpa using ho1, ((Below.refl _ _).alloc (Nat.le_refl _) _).trans (hx1.below (base := w.heap.size) (by simp) (fun g hg => Nat.le_of_eq (Option.some.inj hg)))⟩

end Go.Proofs.YtefifkleamiabaaGreatDoor
