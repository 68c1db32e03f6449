/-
  The walks of the reference's Predicate and SatisfiesConstraint.
  The walk of the reference's ValidateInstance.
  The walks of orderRow and baseInstance.
  What Find and ValidateInstance call, at the base schema with any constraints on the item's size.
  The walk of the law ViolationsEmptyIffValid.
-/
import Derived.Test.YtefifkleamiabaaGreatDoorVm16
import Derived.Test.YtefifkleamiabaaGreatDoorVm14
namespace Go.Proofs.YtefifkleamiabaaGreatDoor
open Go.RowKit Go.Sort

set_option maxRecDepth 100000 in
set_option maxHeartbeats 1000000 in
theorem rPredInt (eq : Bool) (x k : Int) (w : World) :
    Calls Tryz.prog 92 #[.agg #[.int .i64 1, .int .i64 x, .string ⟨#[]⟩], .string (opOf eq), .agg #[.int .i64 1, .int .i64 k, .string ⟨#[]⟩]] w fun e w' => e = .returned (.bool (satV eq k ⟨1, x, ⟨#[]⟩⟩)) ∧ Below w.heap.size w w' := by
  obtain ⟨w1, hw1⟩ : ∃ w1, w1 = (w.alloc (.cells #[.int .i64 1, .int .i64 x, .string ⟨#[]⟩] 60)).alloc (.cells #[.int .i64 1, .int .i64 k, .string ⟨#[]⟩] 60) := ⟨_, rfl⟩
  have hb1 : Below w.heap.size w w1 := by rw [hw1]; exact ((Below.refl _ _).alloc (Nat.le_refl _) _).alloc (le_size1 (Nat.le_refl _) _) _
  have hg1 : w1.heap[w.heap.size]? = some (.cells #[.int .i64 1, .int .i64 x, .string ⟨#[]⟩] 60 (0, 0)) := by
    rw [hw1, Below.heap_alloc _ _ _ (by simp)]
    exact heap_alloc_new w _
  have hg2 : w1.heap[w.heap.size + 1]? = some (.cells #[.int .i64 1, .int .i64 k, .string ⟨#[]⟩] 60 (0, 0)) := by rw [hw1]; exact alloc2_at w _ _
  have x0 := cell_of_row _ _ 0 _ _ _ hg1
  have x1 := cell_of_row _ _ 1 _ _ _ hg1
  have x2 := cell_of_row _ _ 2 _ _ _ hg1
  have y0 := cell_of_row _ _ 0 _ _ _ hg2
  have y1 := cell_of_row _ _ 1 _ _ _ hg2
  have y2 := cell_of_row _ _ 2 _ _ _ hg2
  have HL1 := Lib.hid (rLess1 x k w1)
  have HL2 := Lib.hid (rLess1 k x w1)
  have HB1 := Lib.hid hb1
  have HW1 := Lib.hid hw1
  have HR : Hid (satV false k ⟨1, x, ⟨#[]⟩⟩ = decide (x < k) ∧ satV true k ⟨1, x, ⟨#[]⟩⟩ = !decide (k < x)) := Lib.hid (by
    refine ⟨by simp [satV], ?_⟩
    have h0 : (1 : Int) ≠ 0 := by decide
    by_cases h : k < x
    · have h1 : ¬ x < k := by omega
      have h2 : ¬ x = k := by omega
      simp [satV, h, h1, h2]
    · by_cases h2 : x = k
      · simp [satV, h2]
      · have h1 : x < k := by omega
        simp [satV, h, h1])
  clear hb1 hg1 hg2 hw1
  cases eq
  · rw [show opOf false = ⟨#[60]⟩ from rfl, HR.out.1]
    clear HR
    generalize decide (x < k) = res at *
    go_enter Tryz.func92, Tryz.ntmps92
    go_upto_region 1 with fail
    rw [← HW1.out]
    go_wp2_with fail
    refine HL1.out.mono ?_
    rintro e w2 ⟨rfl, hb2⟩
    have HF := Lib.hid (HB1.out.trans (hb2.mono HB1.out.size))
    clear hb2
    go_wp2_with fail
    go_ret
    exact ⟨rfl, HF.out⟩
  · rw [show opOf true = ⟨#[60, 61]⟩ from rfl, HR.out.2]
    clear HR
    generalize decide (k < x) = res at *
    go_enter Tryz.func92, Tryz.ntmps92
    go_upto_region 1 with fail
    rw [← HW1.out]
    go_wp2_with fail
    refine HL2.out.mono ?_
    rintro e w2 ⟨rfl, hb2⟩
    have HF := Lib.hid (HB1.out.trans (hb2.mono HB1.out.size))
    clear hb2
    go_wp2_with fail
    go_ret
    exact ⟨rfl, HF.out⟩

set_option maxRecDepth 100000 in
set_option maxHeartbeats 1000000 in
theorem rPredNil (eq : Bool) (k : Int) (w : World) :
    Calls Tryz.prog 92 #[.agg #[.int .i64 0, .int .i64 0, .string ⟨#[]⟩], .string (opOf eq), .agg #[.int .i64 1, .int .i64 k, .string ⟨#[]⟩]] w fun e w' => e = .returned (.bool true) ∧ Below w.heap.size w w' := by
  have HB2 : Hid (∀ a b, Below w.heap.size w ((w.alloc a).alloc b)) := Lib.hid fun a b => ((Below.refl _ _).alloc (Nat.le_refl _) a).alloc (le_size1 (Nat.le_refl _) _) b
  generalize opOf eq = op
  go_enter Tryz.func92, Tryz.ntmps92
  go_wp2_with fail
  go_ret
  exact ⟨rfl, HB2.out _ _⟩

theorem rPred (eq : Bool) (k : Int) (v : Val) (hv : NI v) (w : World) :
    Calls Tryz.prog 92 #[.agg #[.int .i64 v.kind, .int .i64 v.int, .string v.text], .string (opOf eq), .agg #[.int .i64 1, .int .i64 k, .string ⟨#[]⟩]] w fun e w' => e = .returned (.bool (satV eq k v)) ∧ Below w.heap.size w w' := by
  rcases hv with rfl | ⟨x, rfl⟩
  · exact rPredNil eq k w
  · exact rPredInt eq x k w

set_option maxRecDepth 100000 in
set_option maxHeartbeats 1000000 in
theorem rSatisfies (name : ByteArray) (eq : Bool) (k : Int) (row : Key) (v1 : Val) (w : World) (hrow : KOk (· < w.heap.size) w row) (hr1 : row.row[1]? = some v1) (hv : NI v1) :
    Calls Tryz.prog 50 #[.agg (bCn name eq k).cells, .slice row.A row.row.length row.c] w fun e w' => e = .returned (.bool (satV eq k v1)) ∧ Below w.heap.size w w' := by
  obtain ⟨w1, hw1⟩ : ∃ w1, w1 = w.alloc (.cells #[.string name, .int .i64 1, .string (opOf eq), .int .i64 (-1), .int .i64 1, .int .i64 k, .string ⟨#[]⟩] 62) := ⟨_, rfl⟩
  have hb1 : Below w.heap.size w w1 := by rw [hw1]; exact (Below.refl _ _).alloc (Nat.le_refl _) _
  have hg1 : w1.heap[w.heap.size]? = some (.cells #[.string name, .int .i64 1, .string (opOf eq), .int .i64 (-1), .int .i64 1, .int .i64 k, .string ⟨#[]⟩] 62 (0, 0)) := by rw [hw1]; exact heap_alloc_new w _
  have x0 := cell_of_row _ _ 0 _ _ _ hg1
  have x1 := cell_of_row _ _ 1 _ _ _ hg1
  have x2 := cell_of_row _ _ 2 _ _ _ hg1
  have x3 := cell_of_row _ _ 3 _ _ _ hg1
  have x4 := cell_of_row _ _ 4 _ _ _ hg1
  have x5 := cell_of_row _ _ 5 _ _ _ hg1
  have x6 := cell_of_row _ _ 6 _ _ _ hg1
  have hlr : 1 < row.row.length := (List.getElem?_eq_some_iff.1 hr1).1
  obtain ⟨br, offr, hRA, -, r0, r1, r2⟩ := (hrow.on hb1).el.val hlr
  have hv1 : row.row[1] = v1 := (List.getElem?_eq_some_iff.1 hr1).2
  rw [hv1] at r0 r1 r2
  obtain ⟨w2, hw2⟩ : ∃ w2, w2 = w1.alloc (.cells #[.int .i64 1, .int .i64 k, .string ⟨#[]⟩] 60) := ⟨_, rfl⟩
  have hb2 : Below w1.heap.size w1 w2 := by rw [hw2]; exact (Below.refl _ _).alloc (Nat.le_refl _) _
  have hg2 : w2.heap[w1.heap.size]? = some (.cells #[.int .i64 1, .int .i64 k, .string ⟨#[]⟩] 60 (0, 0)) := by rw [hw2]; exact heap_alloc_new w1 _
  have hs1 : w.heap.size < w1.heap.size := by rw [hw1]; simp
  have hg12 := (hb2.block _ hs1).trans hg1
  have z1 := cell_of_row _ _ 1 _ _ _ hg12
  have z2 := cell_of_row _ _ 2 _ _ _ hg12
  have z3 := cell_of_row _ _ 3 _ _ _ hg12
  have y0 := cell_of_row _ _ 0 _ _ _ hg2
  have y1 := cell_of_row _ _ 1 _ _ _ hg2
  have y2 := cell_of_row _ _ 2 _ _ _ hg2
  have hb02 := hb1.trans (hb2.mono hb1.size)
  obtain ⟨br2, offr2, hRA2, -, t0, t1, t2⟩ := (hrow.on hb02).el.val hlr
  rw [hRA] at hRA2
  injection hRA2 with hRA2
  injection hRA2 with e1 e2
  subst e1 e2
  rw [hv1] at t0 t1 t2
  have HB2 := Lib.hid hb02
  have HW2 := Lib.hid hw2
  clear hb2 hg2 hs1 hg12 hb02 hw2
  have HSV := Lib.hid (fun m => (rPred eq k v1 hv (w2.drewN m)).mono fun e w' h => (⟨h.1, HB2.out.trans ((below_drewN (Below.refl w2.heap.size w2) m).trans (h.2.mono (below_drewN (Below.refl w2.heap.size w2) m).size) |>.mono HB2.out.size)⟩ : e = .returned (.bool (satV eq k v1)) ∧ Below w.heap.size w w'))
  have HB1 := Lib.hid hb1
  have HW1 := Lib.hid hw1
  obtain ⟨q, hq⟩ : ∃ q, row.row.length = q := ⟨_, rfl⟩
  have hlr' : (1 : Int) < (q : Int) := by omega
  have hlq : ¬ ((q : Int) ≤ 1) := by omega
  have hq0 : ¬ ((q : Int) ≤ -1) := by omega
  rw [hq, hRA]
  unfold bCn Cn.cells
  simp only
  clear hrow hr1 hv hw1 hb1 hg1 hlr hv1 hq
  generalize satV eq k v1 = res at *
  generalize opOf eq = op at *
  go_enter Tryz.func50, Tryz.ntmps50
  go_upto_region 1 with fail
  rw [← HW1.out]
  go_upto_region 2 with fail
  rw [← HW2.out]
  go_wp2_with fail
  go_region_law (first
    | (go_simp; go_at_call 92; refine (HSV.out _).mono ?_; rintro e w3 ⟨rfl, hb3⟩))
  all_goals
    have HF := Lib.hid hb3
    clear hb3
    cases res
    all_goals
      go_wp2_with fail
      go_ret
      exact ⟨rfl, HF.out⟩
end Go.Proofs.YtefifkleamiabaaGreatDoor

namespace Go.Proofs.YtefifkleamiabaaGreatDoor
open Go.RowKit Go.Sort

/-- What the walk of a list of foreign keys or constraints calls. -/
structure RVH (w : World) (inst sv : Value) (n : Nat) (name : Nat → ByteArray) (fid : FuncId) (args : Nat → Value → Array Value) (Q : Nat → Row → Bool) (A : Nat → Option Addr) (c : Nat → Nat) (ks : Nat → List Key) : Prop where
  n8 : n ≤ 8
  len : ∀ i, i < n → (ks i).length ≤ 24
  row : ∀ i, i < n → ∀ W, Below w.heap.size w W → Calls Tryz.prog 48 #[sv, inst, .string (name i)] W fun e w' => e = .returned (.slice (A i) (ks i).length (c i)) ∧ Below W.heap.size W w'
  el : ∀ i, i < n → RsOk (· < w.heap.size) w (A i) (ks i)
  tst : ∀ i, i < n → ∀ W, Below w.heap.size w W → ∀ k : Key, k ∈ ks i → Calls Tryz.prog fid (args i (.slice k.A k.row.length k.c)) W fun e w' => e = .returned (.bool (Q i k.row)) ∧ Below W.heap.size W w'
/-- Every row of n lists is well. -/
def allOk (Q : Nat → Row → Bool) (ks : Nat → List Key) (n : Nat) : Bool := (List.range n).all fun i => (ks i).all fun k => Q i k.row
theorem allOk_true {Q : Nat → Row → Bool} {ks : Nat → List Key} {n : Nat} (h : ∀ i, i < n → ∀ k ∈ ks i, Q i k.row = true) : allOk Q ks n = true := by
  unfold allOk
  rw [List.all_eq_true]
  intro i hi
  rw [List.all_eq_true]
  exact fun k hk => h i (List.mem_range.1 hi) k hk
theorem allOk_false {Q : Nat → Row → Bool} {ks : Nat → List Key} {n i : Nat} (hi : i < n) {k : Key} (hk : k ∈ ks i) (h : Q i k.row = false) : allOk Q ks n = false := by
  unfold allOk
  rw [List.all_eq_false]
  refine ⟨i, List.mem_range.2 hi, fun h2 => ?_⟩
  have := (List.all_eq_true.1 h2) k hk
  rw [h] at this
  cases this
def vAns (a b : Bool) : Int := if a = true then (if b = true then 0 else 11) else 10

set_option maxRecDepth 100000 in
set_option maxHeartbeats 8000000 in
theorem rValidateInst (s : Sc) (inst : Value) (Q P : Nat → Row → Bool) (A B : Nat → Option Addr) (c d : Nat → Nat) (ks cs : Nat → List Key) (w : World) (hs : ScOk (· < w.heap.size) w s)
    (hC : ∀ W, Below w.heap.size w W → Calls Tryz.prog 28 #[s.v, inst] W fun e w' => e = .returned (.int .i64 0) ∧ Below W.heap.size W w')
    (H : RVH w inst s.v s.fks.length (fun i => (s.fks.map FkM.name).getD i ⟨#[]⟩) 49 (fun i v => #[s.v, inst, (s.fks.map FkM.val).getD i undef, v]) Q A c ks)
    (H2 : RVH w inst s.v s.cns.length (fun i => (s.cns.map Cn.name).getD i ⟨#[]⟩) 50 (fun i v => #[(s.cns.map Cn.val7).getD i undef, v]) P B d cs) :
    Calls Tryz.prog 20 #[s.v, inst] w fun e w' => e = .returned (.int .i64 (vAns (allOk Q ks s.fks.length) (allOk P cs s.cns.length))) ∧ Below w.heap.size w w' := by
  obtain ⟨n, hn⟩ : ∃ n, s.fks.length = n := ⟨_, rfl⟩
  obtain ⟨n2, hn2⟩ : ∃ n, s.cns.length = n := ⟨_, rfl⟩
  obtain ⟨w1, hw1⟩ : ∃ w1, w1 = w.alloc (.cells s.cells 27) := ⟨_, rfl⟩
  have hb1 : Below w.heap.size w w1 := by rw [hw1]; exact (Below.refl _ _).alloc (Nat.le_refl _) _
  have hg1 : w1.heap[w.heap.size]? = some (.cells s.cells 27 (0, 0)) := by rw [hw1]; exact heap_alloc_new w _
  have hs1 : w.heap.size < w1.heap.size := by rw [hw1]; simp
  have HBX : Hid (∀ W, Below w1.heap.size w1 W → W.cell? ⟨w.heap.size, 0, none⟩ = some (.slice s.TA s.tabs.length s.tc) ∧ W.cell? ⟨w.heap.size, 1, none⟩ = some (.slice s.FA s.fks.length s.fc) ∧ W.cell? ⟨w.heap.size, 2, none⟩ = some (.slice s.NA s.cns.length s.nc)) := Lib.hid fun W hW => by
    have h := (hW.block w.heap.size hs1).trans hg1
    exact ⟨cell_of_row _ _ 0 _ _ _ h, cell_of_row _ _ 1 _ _ _ h, cell_of_row _ _ 2 _ _ _ h⟩
  have HSC := Lib.hid hs
  have HH := Lib.hid H
  have HH2 := Lib.hid H2
  have HC := Lib.hid hC
  have HB1 := Lib.hid (And.intro hb1 hs1)
  have HW1 := Lib.hid hw1
  have HN := Lib.hid (And.intro hn hn2)
  have hn8 : n ≤ 8 := by have := H.n8; omega
  have hn28 : n2 ≤ 8 := by have := H2.n8; omega
  obtain ⟨x0, x1, x2⟩ := HBX.out w1 (Below.refl _ _)
  unfold Sc.cells at HW1
  unfold Sc.v Sc.cells at HH HH2 HC ⊢
  rw [hn, hn2] at HBX HW1 HH HH2 HC
  rw [hn] at x1
  rw [hn2] at x2
  rw [hn, hn2]
  clear hs H H2 hC hb1 hg1 hs1 hw1 hn hn2
  go_enter Tryz.func20, Tryz.ntmps20
  go_upto_region 1 with fail
  rw [← HW1.out]
  go_wp2_with fail
  refine (HC.out w1 HB1.out.1).mono ?_
  rintro e w2 ⟨rfl, hb2⟩
  have HB2 := Lib.hid hb2
  clear hb2 x0 x1 x2
  obtain ⟨x0, x1, x2⟩ := HBX.out w2 HB2.out
  go_wp2_with fail
  go_loopw [23] (fun vi wr => ∃ i : Nat, vi = .int .i64 (i : Int) ∧ i ≤ n ∧ (∀ i', i' < i → ∀ k ∈ ks i', Q i' k.row = true) ∧ Below w1.heap.size w1 wr) (fun vi _ => n - (intOf vi).toNat)
  case atStart => exact ⟨0, rfl, by omega, fun i' hi' => absurd hi' (Nat.not_lt_zero _), HB2.out⟩
  case round =>
    obtain ⟨i, rfl, hin, hok, hb⟩ := hrel
    obtain ⟨wo, rfl⟩ : ∃ wo, wo = wr := ⟨_, rfl⟩
    by_cases hlt : i < n
    · have hif : i < s.fks.length := by have := HN.out; omega
      have hb0o : Below w.heap.size w wo := HB1.out.1.trans (hb.mono HB1.out.1.size)
      obtain ⟨fb, foff, hFA, -, f0, f1, f2⟩ := (HSC.out.on hb0o).fks.fkm hif
      have HM : Hid ((s.fks.map FkM.name).getD i ⟨#[]⟩ = s.fks[i].name ∧ (s.fks.map FkM.val).getD i undef = s.fks[i].val) := Lib.hid ⟨by simp [List.getD_eq_getElem?_getD, List.getElem?_eq_getElem hif], by simp [List.getD_eq_getElem?_getD, List.getElem?_eq_getElem hif]⟩
      have HL24 := Lib.hid (HH.out.len i hlt)
      have hlt' : (i : Int) < (n : Int) := by omega
      generalize s.fks[i] = fk at *
      obtain ⟨w3, hw3⟩ : ∃ w3, w3 = wo.alloc (.cells #[.string fk.name, .slice fk.A fk.cols.length fk.c, .string fk.ref] 73) := ⟨_, rfl⟩
      have hb3 : Below wo.heap.size wo w3 := by rw [hw3]; exact (Below.refl _ _).alloc (Nat.le_refl _) _
      have hg3 : w3.heap[wo.heap.size]? = some (.cells #[.string fk.name, .slice fk.A fk.cols.length fk.c, .string fk.ref] 73 (0, 0)) := by rw [hw3]; exact heap_alloc_new wo _
      have hs3 : wo.heap.size < w3.heap.size := by rw [hw3]; simp
      have hb13 := hb.trans (hb3.mono hb.size)
      have hb03 := HB1.out.1.trans (hb13.mono HB1.out.1.size)
      have HRO := Lib.hid (HH.out.row i hlt w3 hb03)
      have HIN : Hid (∀ W, Below w3.heap.size w3 W → (W.cell? ⟨wo.heap.size, 0, none⟩ = some (.string fk.name) ∧ W.cell? ⟨wo.heap.size, 1, none⟩ = some (.slice fk.A fk.cols.length fk.c) ∧ W.cell? ⟨wo.heap.size, 2, none⟩ = some (.string fk.ref)) ∧ Below w.heap.size w W ∧ Below w1.heap.size w1 W ∧ RsOk (· < W.heap.size) W (A i) (ks i)) := Lib.hid fun W hW => by
        have h := (hW.block _ hs3).trans hg3
        have h1 := hb03.trans (hW.mono hb03.size)
        exact ⟨⟨cell_of_row _ _ 0 _ _ _ h, cell_of_row _ _ 1 _ _ _ h, cell_of_row _ _ 2 _ _ _ h⟩, h1, hb13.trans (hW.mono hb13.size), (HH.out.el i hlt).on h1⟩
      obtain ⟨y0, y1, y2⟩ := HBX.out w3 hb13
      have g0 := (HIN.out w3 (Below.refl _ _)).1
      have HOK := Lib.hid (And.intro hok hb13)
      have HW3 := Lib.hid hw3
      simp only [HM.out.1] at HRO
      obtain ⟨m, hm⟩ : ∃ m, (ks i).length = m := ⟨_, rfl⟩
      have hm24 : m ≤ 24 := by have := HL24.out; omega
      rw [hm] at HRO
      have HLM := Lib.hid hm
      clear hok hb hb0o hw3 hb3 hg3 hs3 hb13 hb03 hm
      rw [hFA] at HRO HH HBX y1 ⊢
      clear hFA
      go_upto_region 7 with fail
      rw [← HW3.out]
      go_wp2_with fail
      refine HRO.out.mono ?_
      rintro e w4 ⟨rfl, hb4⟩
      have HB4 := Lib.hid hb4
      clear hb4 f0 f1 f2 y0 y1 y2 g0 HRO
      go_wp2_with fail
      go_loopw [33] (fun vj wr => ∃ j : Nat, vj = .int .i64 (j : Int) ∧ j ≤ m ∧ (∀ k ∈ (ks i).take j, Q i k.row = true) ∧ Below w3.heap.size w3 wr) (fun vj _ => m - (intOf vj).toNat)
      case atStart => exact ⟨0, rfl, by omega, (fun k hk => by simp at hk), HB4.out⟩
      case round =>
        obtain ⟨j, rfl, hjm, hjk, hbq⟩ := hrel
        obtain ⟨wq, rfl⟩ : ∃ wq, wq = wr := ⟨_, rfl⟩
        by_cases hlj : j < m
        · have hki : j < (ks i).length := by have := HLM.out; omega
          have hlj' : (j : Int) < (m : Int) := by omega
          obtain ⟨⟨g0, g1, g2⟩, hb0q, hb1q, hrs⟩ := HIN.out wq hbq
          obtain ⟨x0, x1, x2⟩ := HBX.out wq hb1q
          obtain ⟨lb, loff, hA3, -, q0⟩ := hrs.el.key hki
          have hmem : (ks i)[j] ∈ ks i := List.getElem_mem hki
          have HRF := Lib.hid (HH.out.tst i hlt wq hb0q (ks i)[j] hmem)
          have HSUC : Hid (Q i (ks i)[j].row = true → ∀ k ∈ (ks i).take (j + 1), Q i k.row = true) := Lib.hid fun h k hk => by
            rw [List.take_succ_eq_append_getElem hki] at hk
            rcases List.mem_append.1 hk with hk | hk
            · exact hjk k hk
            · rw [List.mem_singleton.1 hk]; exact h
          have HFL : Hid (Q i (ks i)[j].row = false → allOk Q ks n = false) := Lib.hid fun h => allOk_false hlt hmem h
          have HBQ := Lib.hid (And.intro hbq hb0q)
          simp only [HM.out.2] at HRF
          unfold FkM.val at HRF
          clear hjk hbq hb0q hb1q hrs hmem
          generalize (ks i)[j] = q at *
          obtain ⟨qA, qc, qr⟩ := q
          simp only at *
          rw [hA3]
          go_wp2_with fail
          refine HRF.out.mono ?_
          rintro e w5 ⟨rfl, hb5⟩
          have HB5 := Lib.hid hb5
          clear hb5 g0 g1 g2 x0 x1 x2 q0
          cases hq : Q i qr with
          | true =>
            have HF := Lib.hid (HSUC.out hq)
            clear hq HFL
            go_wp2_with fail
            go_roundw
            case rel => exact ⟨j + 1, by go_num, by omega, HF.out, HBQ.out.1.trans (HB5.out.mono HBQ.out.1.size)⟩
            case measure => simp [intOf]; omega
          | false =>
            have HF := Lib.hid (HFL.out hq)
            clear hq HSUC
            go_wp2_with fail
            go_ret
            exact ⟨by rw [HF.out]; rfl, HBQ.out.2.trans (HB5.out.mono HBQ.out.2.size)⟩
        · have HF : Hid ((∀ i', i' < i + 1 → ∀ k ∈ ks i', Q i' k.row = true) ∧ Below w1.heap.size w1 wq) := Lib.hid ⟨fun i' hi' k hk => by
            rcases Nat.lt_or_ge i' i with h | h
            · exact HOK.out.1 i' h k hk
            · obtain rfl : i' = i := by omega
              refine hjk k ?_
              rw [List.take_of_length_le (by have := HLM.out; omega)]
              exact hk, HOK.out.2.trans (hbq.mono HOK.out.2.size)⟩
          clear hjk hbq
          go_wp2_with fail
          go_roundw
          case rel => exact ⟨i + 1, by go_num, by omega, HF.out.1, HF.out.2⟩
          case measure => simp [intOf]; omega
    · obtain rfl : i = n := by omega
      have HQ1 : Hid (allOk Q ks i = true ∧ True) := Lib.hid ⟨allOk_true hok, trivial⟩
      have HB5 := Lib.hid hb
      clear hok x0 x1 x2
      obtain ⟨x0, x1, x2⟩ := HBX.out wo hb
      clear hb
      go_wp2_with fail
      go_loopw [48] (fun vi wr => ∃ i : Nat, vi = .int .i64 (i : Int) ∧ i ≤ n2 ∧ (∀ i', i' < i → ∀ k ∈ cs i', P i' k.row = true) ∧ Below w1.heap.size w1 wr) (fun vi _ => n2 - (intOf vi).toNat)
      case atStart => exact ⟨0, rfl, by omega, fun i' hi' => absurd hi' (Nat.not_lt_zero _), HB5.out⟩
      case round =>
        obtain ⟨i, rfl, hin, hok, hb⟩ := hrel
        obtain ⟨wo, rfl⟩ : ∃ wo, wo = wr := ⟨_, rfl⟩
        by_cases hlt : i < n2
        · have hif : i < s.cns.length := by have := HN.out; omega
          have hb0o : Below w.heap.size w wo := HB1.out.1.trans (hb.mono HB1.out.1.size)
          obtain ⟨fb, foff, hFA, -, f0, f1, f2, f3, f4, f5, f6⟩ := (HSC.out.on hb0o).cns.cn hif
          have HM : Hid ((s.cns.map Cn.name).getD i ⟨#[]⟩ = s.cns[i].name ∧ (s.cns.map Cn.val7).getD i undef = s.cns[i].val7) := Lib.hid ⟨by simp [List.getD_eq_getElem?_getD, List.getElem?_eq_getElem hif], by simp [List.getD_eq_getElem?_getD, List.getElem?_eq_getElem hif]⟩
          have HL24 := Lib.hid (HH2.out.len i hlt)
          have hlt' : (i : Int) < (n2 : Int) := by omega
          generalize s.cns[i] = fk at *
          obtain ⟨w3, hw3⟩ : ∃ w3, w3 = wo.alloc (.cells #[.string fk.name, .int .i64 fk.left, .string fk.op, .int .i64 fk.right, .int .i64 fk.val.kind, .int .i64 fk.val.int, .string fk.val.text] 62) := ⟨_, rfl⟩
          have hb3 : Below wo.heap.size wo w3 := by rw [hw3]; exact (Below.refl _ _).alloc (Nat.le_refl _) _
          have hg3 : w3.heap[wo.heap.size]? = some (.cells #[.string fk.name, .int .i64 fk.left, .string fk.op, .int .i64 fk.right, .int .i64 fk.val.kind, .int .i64 fk.val.int, .string fk.val.text] 62 (0, 0)) := by rw [hw3]; exact heap_alloc_new wo _
          have hs3 : wo.heap.size < w3.heap.size := by rw [hw3]; simp
          have hb13 := hb.trans (hb3.mono hb.size)
          have hb03 := HB1.out.1.trans (hb13.mono HB1.out.1.size)
          have HRO := Lib.hid (HH2.out.row i hlt w3 hb03)
          have HIN : Hid (∀ W, Below w3.heap.size w3 W → (W.cell? ⟨wo.heap.size, 0, none⟩ = some (.string fk.name) ∧ W.cell? ⟨wo.heap.size, 1, none⟩ = some (.int .i64 fk.left) ∧ W.cell? ⟨wo.heap.size, 2, none⟩ = some (.string fk.op) ∧ W.cell? ⟨wo.heap.size, 3, none⟩ = some (.int .i64 fk.right) ∧ W.cell? ⟨wo.heap.size, 4, none⟩ = some (.int .i64 fk.val.kind) ∧ W.cell? ⟨wo.heap.size, 5, none⟩ = some (.int .i64 fk.val.int) ∧ W.cell? ⟨wo.heap.size, 6, none⟩ = some (.string fk.val.text)) ∧ Below w.heap.size w W ∧ Below w1.heap.size w1 W ∧ RsOk (· < W.heap.size) W (B i) (cs i)) := Lib.hid fun W hW => by
            have h := (hW.block _ hs3).trans hg3
            have h1 := hb03.trans (hW.mono hb03.size)
            exact ⟨⟨cell_of_row _ _ 0 _ _ _ h, cell_of_row _ _ 1 _ _ _ h, cell_of_row _ _ 2 _ _ _ h, cell_of_row _ _ 3 _ _ _ h, cell_of_row _ _ 4 _ _ _ h, cell_of_row _ _ 5 _ _ _ h, cell_of_row _ _ 6 _ _ _ h⟩, h1, hb13.trans (hW.mono hb13.size), (HH2.out.el i hlt).on h1⟩
          obtain ⟨y0, y1, y2⟩ := HBX.out w3 hb13
          have g0 := (HIN.out w3 (Below.refl _ _)).1
          have HOK := Lib.hid (And.intro hok hb13)
          have HW3 := Lib.hid hw3
          simp only [HM.out.1] at HRO
          obtain ⟨m, hm⟩ : ∃ m, (cs i).length = m := ⟨_, rfl⟩
          have hm24 : m ≤ 24 := by have := HL24.out; omega
          rw [hm] at HRO
          have HLM := Lib.hid hm
          clear hok hb hb0o hw3 hb3 hg3 hs3 hb13 hb03 hm
          rw [hFA] at HRO HH2 HBX y2 ⊢
          clear hFA
          go_upto_region 17 with fail
          rw [← HW3.out]
          go_wp2_with fail
          refine HRO.out.mono ?_
          rintro e w4 ⟨rfl, hb4⟩
          have HB4 := Lib.hid hb4
          clear hb4 f0 f1 f2 f3 f4 f5 f6 y0 y1 y2 g0 HRO
          go_wp2_with fail
          go_loopw [58] (fun vj wr => ∃ j : Nat, vj = .int .i64 (j : Int) ∧ j ≤ m ∧ (∀ k ∈ (cs i).take j, P i k.row = true) ∧ Below w3.heap.size w3 wr) (fun vj _ => m - (intOf vj).toNat)
          case atStart => exact ⟨0, rfl, by omega, (fun k hk => by simp at hk), HB4.out⟩
          case round =>
            obtain ⟨j, rfl, hjm, hjk, hbq⟩ := hrel
            obtain ⟨wq, rfl⟩ : ∃ wq, wq = wr := ⟨_, rfl⟩
            by_cases hlj : j < m
            · have hki : j < (cs i).length := by have := HLM.out; omega
              have hlj' : (j : Int) < (m : Int) := by omega
              obtain ⟨⟨g0, g1, g2, g3, g4, g5, g6⟩, hb0q, hb1q, hrs⟩ := HIN.out wq hbq
              obtain ⟨x0, x1, x2⟩ := HBX.out wq hb1q
              obtain ⟨lb, loff, hA3, -, q0⟩ := hrs.el.key hki
              have hmem : (cs i)[j] ∈ cs i := List.getElem_mem hki
              have HRF := Lib.hid (HH2.out.tst i hlt wq hb0q (cs i)[j] hmem)
              have HSUC : Hid (P i (cs i)[j].row = true → ∀ k ∈ (cs i).take (j + 1), P i k.row = true) := Lib.hid fun h k hk => by
                rw [List.take_succ_eq_append_getElem hki] at hk
                rcases List.mem_append.1 hk with hk | hk
                · exact hjk k hk
                · rw [List.mem_singleton.1 hk]; exact h
              have HFL : Hid (P i (cs i)[j].row = false → allOk P cs n2 = false) := Lib.hid fun h => allOk_false hlt hmem h
              have HBQ := Lib.hid (And.intro hbq hb0q)
              simp only [HM.out.2] at HRF
              unfold Cn.val7 Cn.cells at HRF
              clear hjk hbq hb0q hb1q hrs hmem
              generalize (cs i)[j] = q at *
              obtain ⟨qA, qc, qr⟩ := q
              simp only at *
              rw [hA3]
              go_wp2_with fail
              refine HRF.out.mono ?_
              rintro e w5 ⟨rfl, hb5⟩
              have HB5 := Lib.hid hb5
              clear hb5 g0 g1 g2 g3 g4 g5 g6 x0 x1 x2 q0
              cases hq : P i qr with
              | true =>
                have HF := Lib.hid (HSUC.out hq)
                clear hq HFL
                go_wp2_with fail
                go_roundw
                case rel => exact ⟨j + 1, by go_num, by omega, HF.out, HBQ.out.1.trans (HB5.out.mono HBQ.out.1.size)⟩
                case measure => simp [intOf]; omega
              | false =>
                have HF := Lib.hid (HFL.out hq)
                clear hq HSUC
                go_wp2_with fail
                go_ret
                exact ⟨by rw [HQ1.out.1, HF.out]; rfl, HBQ.out.2.trans (HB5.out.mono HBQ.out.2.size)⟩
            · have HF : Hid ((∀ i', i' < i + 1 → ∀ k ∈ cs i', P i' k.row = true) ∧ Below w1.heap.size w1 wq) := Lib.hid ⟨fun i' hi' k hk => by
                rcases Nat.lt_or_ge i' i with h | h
                · exact HOK.out.1 i' h k hk
                · obtain rfl : i' = i := by omega
                  refine hjk k ?_
                  rw [List.take_of_length_le (by have := HLM.out; omega)]
                  exact hk, HOK.out.2.trans (hbq.mono HOK.out.2.size)⟩
              clear hjk hbq
              go_wp2_with fail
              go_roundw
              case rel => exact ⟨i + 1, by go_num, by omega, HF.out.1, HF.out.2⟩
              case measure => simp [intOf]; omega
        · obtain rfl : i = n2 := by omega
          have HF : Hid (allOk P cs i = true ∧ Below w.heap.size w wo) := Lib.hid ⟨allOk_true hok, HB1.out.1.trans (hb.mono HB1.out.1.size)⟩
          clear hok hb
          go_wp2_with fail
          go_ret
          exact ⟨by rw [HQ1.out.1, HF.out.1]; rfl, HF.out.2⟩
end Go.Proofs.YtefifkleamiabaaGreatDoor

namespace Go.Proofs.YtefifkleamiabaaGreatDoor
open Go.RowKit Go.Sort

/-- An order's row. -/
def oRow (a b : Int) : Row := [⟨1, a, ⟨#[]⟩⟩, ⟨1, b, ⟨#[]⟩⟩, ⟨2, 0, ⟨#[]⟩⟩]
theorem oRow_ok {a b : Int} (ha : 0 ≤ a ∧ a < 7) (hb : 0 ≤ b ∧ b < 7) : RowC orderCols (oRow a b) where
  len := rfl
  err := fun v hv => by
    simp only [oRow, List.mem_cons, List.not_mem_nil, or_false] at hv
    rcases hv with rfl | rfl | rfl
    · exact iErr ha
    · exact iErr hb
    · decide +kernel
  col := by
    intro i h
    have h : i < 3 := h
    rcases i with _ | _ | _ | i
    · exact .inl ⟨rfl, by show (1 : Int) ≠ 0; omega⟩
    · exact .inl ⟨rfl, by show (1 : Int) ≠ 0; omega⟩
    · exact .inl ⟨rfl, by show (2 : Int) ≠ 0; omega⟩
    · omega
theorem iRow_g {a b : Nat} (ha : a < 7) (hb : b < 7) : RG itemCols (iRow a b) where
  fit := iRow_ok ⟨by omega, by omega⟩ ⟨by omega, by omega⟩
  key := rfl
  dig := by show a < 8; omega
  c1 := .inr ⟨b, by omega, rfl⟩
theorem oRow_g {a b : Nat} (ha : a < 7) (hb : b < 7) : RG orderCols (oRow a b) where
  fit := oRow_ok ⟨by omega, by omega⟩ ⟨by omega, by omega⟩
  key := rfl
  dig := by show a < 8; omega
  c1 := .inr ⟨b, by omega, rfl⟩

set_option maxRecDepth 100000 in
theorem orderRowW (x y : Int) (w : World) (hx : I64 x) (hy : I64 y) :
    Calls Tryz.prog 17 #[.int .i64 x, .int .i64 y] w fun e w' => e = .returned (.slice (some ⟨w.heap.size, 0, none⟩) 3 3) ∧ Elems 3 Val.cs w' (fun g => g = w.heap.size) (some ⟨w.heap.size, 0, none⟩) (oRow (md x 5 : Nat) (md y 5 : Nat)) ∧ Below w.heap.size w w' ∧ w'.heap.size = w.heap.size + 1 := by
  have HX := Lib.hid fun W => modW x 5 W hx (by omega) (by omega)
  have HY := Lib.hid fun W => modW y 5 W hy (by omega) (by omega)
  clear hx hy
  generalize md x 5 = m at *
  generalize md y 5 = n at *
  go_enter Tryz.func17, Tryz.ntmps17
  go_wp2_with fail
  refine (HX.out w).mono ?_
  rintro e w' ⟨rfl, rfl⟩
  go_wp2_with fail
  refine (HY.out w).mono ?_
  rintro e w' ⟨rfl, rfl⟩
  go_wp2_with fail
  go_ret
  exact ⟨rfl, elems_block valLay (xs := oRow (m : Nat) (n : Nat)) (heap_alloc_new w _) rfl (by show 3 ≤ maxLen; decide) rfl, (Below.refl _ _).alloc (Nat.le_refl _) _, by simp⟩

theorem BG.nil : BG (fun _ => []) := ⟨(fun _ _ r hr => by cases hr), (fun _ _ => List.Pairwise.nil)⟩

theorem tdiv_i64 {x d : Int} (hx : I64 x) (hd : d = 2 ∨ d = 8) : I64 (x.tdiv d) := by
  obtain ⟨h1, h2⟩ := hx
  have hdp : 0 < d := by omega
  rcases Int.le_total 0 x with h | h
  · rw [Int.tdiv_eq_ediv_of_nonneg h]
    have a := Int.ediv_nonneg h (Int.le_of_lt hdp)
    have b := Int.ediv_le_self d h
    exact ⟨by omega, by omega⟩
  · have e : x.tdiv d = -((-x).tdiv d) := by rw [Int.neg_tdiv, Int.neg_neg]
    have h' : 0 ≤ -x := by omega
    rw [e, Int.tdiv_eq_ediv_of_nonneg h']
    have a := Int.ediv_nonneg h' (Int.le_of_lt hdp)
    have b := Int.ediv_le_self d h'
    rcases hd with rfl | rfl
    · exact ⟨by omega, by omega⟩
    · exact ⟨by omega, by omega⟩
theorem chLay : Lay 4 ChM.cs := ⟨fun _ => rfl, fun x c hc => by simp [ChM.cs] at hc; rcases hc with rfl | rfl | rfl | rfl <;> rfl⟩
/-- One upsert. -/
def OneAns (W : World) (e : Ending) (w' : World) : Prop := ∃ R' v', e = .returned (.tuple #[v', .int .i64 0]) ∧ InB R' w' v' ∧ BG R' ∧ Below W.heap.size W w'
theorem applyOne {T IA IP OA OP F FC N : Option Addr} (R : Nat → List Row) (v : Value) (ch : ChM) (W : World) (hs : ScOk (· < W.heap.size) W (bSc T IA IP OA OP F FC N)) (hi : InB R W v) (hR : BG R) (hf : FitB ch) (hk : ch.kind = 1) (ho : ChOk (· < W.heap.size) W ch) :
    Calls Tryz.prog 11 #[.agg #[.slice T 2 2, .slice F 1 1, .slice N 1 1], v, .slice (some ⟨W.heap.size, 0, none⟩) 1 1] (W.alloc (.cells ch.cells 51)) (OneAns W) := by
  have ha : Below W.heap.size W (W.alloc (.cells ch.cells 51)) := (Below.refl _ _).alloc (Nat.le_refl _) _
  have hel : Elems 4 ChM.cs (W.alloc (.cells ch.cells 51)) (fun g => g = W.heap.size) (some ⟨W.heap.size, 0, none⟩) [ch] := elems_block chLay (heap_alloc_new W _) rfl (by show 1 ≤ maxLen; decide) rfl
  refine (rApplyB (bSc T IA IP OA OP F FC N) v _ 1 [ch] R _ (hs.on ha) ⟨IA, IP, OA, OP, rfl⟩ (fun W2 h2 => rValidateSchema _ W2 ((hs.on ha).on h2) bSc_ref) (hi.on ha) hR (hel.more fun g hg => by rw [hg]; simp) (fun c hc => by rw [List.mem_singleton.1 hc]; exact ho.on ha) (by show 1 ≤ 24; omega) (fun c hc => by rw [List.mem_singleton.1 hc]; exact hf)).mono ?_
  rintro e w' ⟨hb, ⟨R', Rs, v', -, rfl, hin, hbg, -⟩ | ⟨hno, -⟩⟩
  · exact ⟨Rs, v', rfl, hin, hbg, ha.trans (hb.mono ha.size)⟩
  · have hst : ¬ stopB ch R := fun h => by have := h.1; omega
    unfold runB at hno
    rw [if_neg hst] at hno
    cases hno
theorem kOk_nil {S : Nat → Prop} {W : World} : KOk S W ⟨none, 0, []⟩ := ⟨fun h => absurd h (Nat.not_lt_zero _), by show 0 ≤ 12; decide⟩
theorem fit_item {A B : Option Addr} {c d a b : Nat} (ha : a < 7) (hb : b < 7) : FitB ⟨1, nItem, ⟨A, c, []⟩, ⟨B, d, iRow (a : Int) (b : Int)⟩⟩ := by
  have e : tiOf ⟨1, nItem, ⟨A, c, []⟩, ⟨B, d, iRow (a : Int) (b : Int)⟩⟩ = 0 := rfl
  exact ⟨⟨rfl, by rw [e]; decide⟩, .inl ⟨rfl, rfl, by rw [e]; exact iRow_g ha hb⟩⟩
theorem fit_order {A B : Option Addr} {c d a b : Nat} (ha : a < 7) (hb : b < 7) : FitB ⟨1, nOrder, ⟨A, c, []⟩, ⟨B, d, oRow (a : Int) (b : Int)⟩⟩ := by
  have e : tiOf ⟨1, nOrder, ⟨A, c, []⟩, ⟨B, d, oRow (a : Int) (b : Int)⟩⟩ = 1 := tiOf_tab (by decide) rfl
  exact ⟨⟨by rw [e]; rfl, by rw [e]; decide⟩, .inl ⟨rfl, rfl, by rw [e]; exact oRow_g ha hb⟩⟩
theorem setCh4 {w : World} {g : Nat} {t : TypeId} {a b c d a' b' c' d' : Value} (h : w.heap[g]? = some (.cells #[a, b, c, d] t (0, 0))) :
    ((((w.setCell ⟨g, 0, none⟩ a').setCell ⟨g, 1, none⟩ b').setCell ⟨g, 2, none⟩ c').setCell ⟨g, 3, none⟩ d').heap[g]? = some (.cells #[a', b', c', d'] t (0, 0)) := by
  rw [heap_setCell_at (heap_setCell_at (heap_setCell_at (heap_setCell_at h _) _) _) _]
  rfl
/-- What baseInstance answers. -/
def BaseAns (w : World) (e : Ending) (w' : World) : Prop := ∃ R v, e = .returned v ∧ BG R ∧ InB R w' v ∧ Below w.heap.size w w'

set_option maxRecDepth 100000 in
set_option maxHeartbeats 8000000 in
theorem baseInstanceW (A : Option Addr) (c : Nat) (xs : List Int) (w : World) (hx : Elems 1 intCs w (· < w.heap.size) A xs) (hv : ∀ x ∈ xs, I64 x) (hl : (xs.length : Int) ≤ 9223372036854775807) (hcap : xs.length ≤ c) :
    Calls Tryz.prog 9 #[.slice A xs.length c] w (BaseAns w) := by
  obtain ⟨n, hn⟩ : ∃ n, xs.length = n := ⟨_, rfl⟩
  obtain ⟨m, hm⟩ : ∃ m, min n 10 = m := ⟨_, rfl⟩
  have hmin : min (n : Int) 10 = (m : Int) := by omega
  have hm10 : m ≤ 10 := by omega
  have hmn : (m : Int) ≤ (n : Int) := by omega
  have hmc : (m : Int) ≤ (c : Int) := by omega
  have HX := Lib.hid hx
  have HV := Lib.hid hv
  have HN := Lib.hid (And.intro hn hm)
  rw [hn]
  clear hx hv hn hm hcap hl
  go_enter Tryz.func9, Tryz.ntmps9
  go_wp2_with fail
  refine (baseSchemaW w).mono ?_
  rintro e w1 ⟨T, IA, IP, OA, OP, F, FC, N, rfl, hs1, hb1⟩
  rw [show (bSc T IA IP OA OP F FC N).v = .agg #[.slice T 2 2, .slice F 1 1, .slice N 1 1] from rfl]
  obtain ⟨w2, hw2⟩ : ∃ w2, w2 = w1.alloc (.cells #[.slice T 2 2, .slice F 1 1, .slice N 1 1] 27) := ⟨_, rfl⟩
  have hb2 : Below w1.heap.size w1 w2 := by rw [hw2]; exact (Below.refl _ _).alloc (Nat.le_refl _) _
  have hg2 : w2.heap[w1.heap.size]? = some (.cells #[.slice T 2 2, .slice F 1 1, .slice N 1 1] 27 (0, 0)) := by rw [hw2]; exact heap_alloc_new w1 _
  have hs2 : w1.heap.size < w2.heap.size := by rw [hw2]; simp
  have hb02 := hb1.trans (hb2.mono hb1.size)
  have HBX : Hid (∀ W, Below w2.heap.size w2 W → W.cell? ⟨w1.heap.size, 0, none⟩ = some (.slice T 2 2) ∧ W.cell? ⟨w1.heap.size, 1, none⟩ = some (.slice F 1 1) ∧ W.cell? ⟨w1.heap.size, 2, none⟩ = some (.slice N 1 1)) := Lib.hid fun W hW => by
    have h := (hW.block _ hs2).trans hg2
    exact ⟨cell_of_row _ _ 0 _ _ _ h, cell_of_row _ _ 1 _ _ _ h, cell_of_row _ _ 2 _ _ _ h⟩
  have HSC : Hid (∀ W, Below w2.heap.size w2 W → ScOk (· < W.heap.size) W (bSc T IA IP OA OP F FC N)) := Lib.hid fun W hW => (hs1.on hb2).on hW
  have HEM : Hid (Calls Tryz.prog 23 #[.agg #[.slice T 2 2, .slice F 1 1, .slice N 1 1]] w2 fun e w' => ∃ g, e = .returned (.slice (some ⟨g, 0, none⟩) 2 2) ∧ InB (fun _ => []) w' (.slice (some ⟨g, 0, none⟩) 2 2) ∧ Below w2.heap.size w2 w') := Lib.hid <| by
    refine (emptyOwn (bSc T IA IP OA OP F FC N) w2 (hs1.on hb2) rfl (fun _ => rfl) (fun _ => rfl)).mono ?_
    rintro e w' ⟨g, rfl, -, hei⟩
    exact ⟨g, rfl, ⟨_, _, _, _, _, _, _, _, rfl, hei.inst, rfl, rfl⟩, hei.2⟩
  obtain ⟨x0, x1, x2⟩ := HBX.out w2 (Below.refl _ _)
  have HB2 := Lib.hid hb02
  have HW2 := Lib.hid hw2
  clear hs1 hb1 hw2 hb2 hg2 hs2 hb02
  go_upto_region 2 with fail
  rw [← HW2.out]
  go_wp2_with fail
  refine HEM.out.mono ?_
  rintro e w3 ⟨g, rfl, hin3, hb3⟩
  clear x0 x1 x2
  have HB3 := Lib.hid (And.intro hin3 hb3)
  clear hin3 hb3
  go_wp2_with fail
  go_loopw [4, 19] (fun v4 vi wr => ∃ (k : Nat) (R : Nat → List Row), vi = .int .i64 (k : Int) ∧ k ≤ m ∧ InB R wr v4 ∧ BG R ∧ Below w2.heap.size w2 wr) (fun _ vi _ => m - (intOf vi).toNat)
  case atStart => exact ⟨0, _, rfl, by omega, HB3.out.1, BG.nil, HB3.out.2⟩
  case round =>
    clear HB3
    obtain ⟨k, R, rfl, hkm, hin, hbg, hb⟩ := hrel
    obtain ⟨wo, rfl⟩ : ∃ wo, wo = wr := ⟨_, rfl⟩
    obtain ⟨v4, rfl⟩ : ∃ v4, v4 = u4 := ⟨_, rfl⟩
    by_cases hlt : k < m
    · have hki : k < xs.length := by have := HN.out; omega
      have hb0 := HB2.out.trans (hb.mono HB2.out.size)
      obtain ⟨b, off, hA, -, p0⟩ : ∃ b off, A = some ⟨b, off, none⟩ ∧ True ∧ wo.cell? ⟨b, off + k, none⟩ = some (.int .i64 xs[k]) := by
        obtain ⟨b, off, e1, -, hcl⟩ := (HX.out.of fun g hg => ⟨hb0.block g hg, Nat.lt_of_lt_of_le hg hb0.size⟩ : Elems 1 intCs wo (· < wo.heap.size) A xs).at_ hki
        refine ⟨b, off, e1, trivial, ?_⟩
        have := hcl 0 (.int .i64 xs[k]) rfl
        simpa using this
      have hI := HV.out _ (List.getElem_mem hki)
      generalize xs[k] = x at *
      have h2 := tdiv_i64 hI (d := 2) (.inl rfl)
      have h8 := tdiv_i64 hI (d := 8) (.inr rfl)
      have HIT := Lib.hid (itemRowW (x.tdiv 2) (x.tdiv 8) wo h2 h8)
      have HOT := Lib.hid fun W => orderRowW (x.tdiv 2) (x.tdiv 8) W h2 h8
      have hlt' : (k : Int) < (m : Int) := by omega
      have HIN := Lib.hid (And.intro hin (And.intro hbg hb))
      obtain ⟨h2a, h2b⟩ := h2
      obtain ⟨h8a, h8b⟩ := h8
      obtain ⟨hIa, hIb⟩ := hI
      clear hin hbg hb hb0
      rw [hA]
      have hm5 := md_lt (k := x.tdiv 2) (n := 5) (by omega)
      have hm7 := md_lt (k := x.tdiv 8) (n := 7) (by omega)
      have hn5 := md_lt (k := x.tdiv 8) (n := 5) (by omega)
      have HM : Hid (md (x.tdiv 2) 5 < 7 ∧ md (x.tdiv 8) 7 < 7 ∧ md (x.tdiv 8) 5 < 7) := Lib.hid ⟨by omega, by omega, by omega⟩
      clear hm5 hm7 hn5
      go_wp2_with fail
      refine HIT.out.mono ?_
      rintro e w5 ⟨rfl, hel5, hb5, hs5⟩
      obtain ⟨w6, hw6⟩ : ∃ w6, w6 = w5.alloc (.cells #[.int .i64 1, .string ⟨#[105, 116, 101, 109]⟩, .slice none 0 0, .slice (some ⟨wo.heap.size, 0, none⟩) 4 4] 51) := ⟨_, rfl⟩
      have hb6 : Below w5.heap.size w5 w6 := by rw [hw6]; exact (Below.refl _ _).alloc (Nat.le_refl _) _
      have hg6 : w6.heap[w5.heap.size]? = some (.cells #[.int .i64 1, .string ⟨#[105, 116, 101, 109]⟩, .slice none 0 0, .slice (some ⟨wo.heap.size, 0, none⟩) 4 4] 51 (0, 0)) := by rw [hw6]; exact heap_alloc_new w5 _
      have hs6 : w5.heap.size < w6.heap.size := by rw [hw6]; simp
      have hbo6 : Below wo.heap.size wo w6 := hb5.trans (hb6.mono hb5.size)
      have hb26 := HIN.out.2.2.trans (hbo6.mono HIN.out.2.2.size)
      have c0 := cell_of_row _ _ 0 _ _ _ hg6
      have c1 := cell_of_row _ _ 1 _ _ _ hg6
      have c2 := cell_of_row _ _ 2 _ _ _ hg6
      have c3 := cell_of_row _ _ 3 _ _ _ hg6
      obtain ⟨x0, x1, x2⟩ := HBX.out w6 hb26
      have HAP : Hid (Calls Tryz.prog 11 #[.agg #[.slice T 2 2, .slice F 1 1, .slice N 1 1], v4, .slice (some ⟨w6.heap.size, 0, none⟩) 1 1] (w6.alloc (.cells #[.int .i64 1, .string ⟨#[105, 116, 101, 109]⟩, .slice none 0 0, .slice (some ⟨wo.heap.size, 0, none⟩) 4 4] 51)) (OneAns w6)) := Lib.hid (applyOne R v4 ⟨1, nItem, ⟨none, 0, []⟩, ⟨some ⟨wo.heap.size, 0, none⟩, 4, iRow (md (x.tdiv 2) 5 : Nat) (md (x.tdiv 8) 7 : Nat)⟩⟩ w6 (HSC.out w6 hb26) (HIN.out.1.on hbo6) HIN.out.2.1 (fit_item HM.out.1 HM.out.2.1) rfl
        ⟨kOk_nil, ⟨hel5.of fun g hg => ⟨hb6.block g (by omega), by omega⟩, by show 4 ≤ 12; decide⟩⟩)
      have H6 := Lib.hid (And.intro hbo6 (And.intro hb26 (And.intro hg6 (And.intro hs6 (And.intro hb5.size hs5)))))
      have HW6 := Lib.hid hw6
      clear hel5 hb5 hw6 hb6 hg6 hs6 hbo6 hb26 hs5
      by_cases hodd : x.tmod 2 = 0
      · go_upto_region 7 with fail
        rw [← HW6.out]
        go_wp2_with fail
        refine HAP.out.mono ?_
        rintro e w9 ⟨R9, v9, rfl, hin9, hbg9, hb9⟩
        have HF := Lib.hid (And.intro hin9 (And.intro hbg9 (H6.out.2.1.trans (hb9.mono H6.out.2.1.size))))
        clear hin9 hbg9 hb9
        go_wp2_with fail
        go_roundw
        case rel => exact ⟨k + 1, R9, by go_num, by omega, HF.out.1, HF.out.2.1, HF.out.2.2⟩
        case measure => simp [intOf]; omega
      · go_upto_region 7 with fail
        rw [← HW6.out]
        go_wp2_with fail
        refine (HOT.out w6).mono ?_
        rintro e w7 ⟨rfl, hel7, hb7, hs7⟩
        clear c0 c1 c2 c3 x0 x1 x2
        have hg7 := (hb7.block _ H6.out.2.2.2.1).trans H6.out.2.2.1
        have c0 := cell_of_row _ _ 0 _ _ _ hg7
        have c1 := cell_of_row _ _ 1 _ _ _ hg7
        have c2 := cell_of_row _ _ 2 _ _ _ hg7
        have c3 := cell_of_row _ _ 3 _ _ _ hg7
        have f0 := frozen_of_row _ _ 0 _ _ hg7
        have f1 := frozen_of_row _ _ 1 _ _ hg7
        have f2 := frozen_of_row _ _ 2 _ _ hg7
        have f3 := frozen_of_row _ _ 3 _ _ hg7
        obtain ⟨w8, hw8⟩ : ∃ w8, w8 = (((w7.setCell ⟨w5.heap.size, 0, none⟩ (.int .i64 1)).setCell ⟨w5.heap.size, 1, none⟩ (.string ⟨#[111, 114, 100, 101, 114]⟩)).setCell ⟨w5.heap.size, 2, none⟩ (.slice none 0 0)).setCell ⟨w5.heap.size, 3, none⟩ (.slice (some ⟨w6.heap.size, 0, none⟩) 3 3) := ⟨_, rfl⟩
        have hg8 : w8.heap[w5.heap.size]? = some (.cells #[.int .i64 1, .string ⟨#[111, 114, 100, 101, 114]⟩, .slice none 0 0, .slice (some ⟨w6.heap.size, 0, none⟩) 3 3] 51 (0, 0)) := by rw [hw8]; exact setCh4 hg7
        have hne8 : ∀ i, i ≠ w5.heap.size → w8.heap[i]? = w7.heap[i]? := fun i hi => by
          rw [hw8, Below.heap_setCell _ _ _ _ hi, Below.heap_setCell _ _ _ _ hi, Below.heap_setCell _ _ _ _ hi, Below.heap_setCell _ _ _ _ hi]
        have hs8 : w8.heap.size = w7.heap.size := by rw [hw8]; simp [World.setCell]
        have hso := H6.out.2.2.2.2.1
        have hso6 := H6.out.2.2.2.1
        have hbo7 : Below wo.heap.size wo w7 := H6.out.1.trans (hb7.mono H6.out.1.size)
        have hbo8 : Below wo.heap.size wo w8 := by
          rw [hw8]
          exact (((hbo7.setCell (p := ⟨w5.heap.size, 0, none⟩) hso _).setCell (p := ⟨w5.heap.size, 1, none⟩) hso _).setCell (p := ⟨w5.heap.size, 2, none⟩) hso _).setCell (p := ⟨w5.heap.size, 3, none⟩) hso _
        have hb28 := HIN.out.2.2.trans (hbo8.mono HIN.out.2.2.size)
        have HAQ : Hid (Calls Tryz.prog 11 #[.agg #[.slice T 2 2, .slice F 1 1, .slice N 1 1], v4, .slice (some ⟨w8.heap.size, 0, none⟩) 1 1] (w8.alloc (.cells #[.int .i64 1, .string ⟨#[111, 114, 100, 101, 114]⟩, .slice none 0 0, .slice (some ⟨w6.heap.size, 0, none⟩) 3 3] 51)) (OneAns w8)) := Lib.hid (applyOne R v4 ⟨1, nOrder, ⟨none, 0, []⟩, ⟨some ⟨w6.heap.size, 0, none⟩, 3, oRow (md (x.tdiv 2) 5 : Nat) (md (x.tdiv 8) 5 : Nat)⟩⟩ w8 (HSC.out w8 hb28) (HIN.out.1.on hbo8) HIN.out.2.1 (fit_order HM.out.1 HM.out.2.2) rfl
          ⟨kOk_nil, ⟨hel7.of fun g hg => ⟨hne8 g (by omega), by omega⟩, by show 3 ≤ 12; decide⟩⟩)
        obtain ⟨x0, x1, x2⟩ := HBX.out w8 hb28
        have d0 := cell_of_row _ _ 0 _ _ _ hg8
        have d1 := cell_of_row _ _ 1 _ _ _ hg8
        have d2 := cell_of_row _ _ 2 _ _ _ hg8
        have d3 := cell_of_row _ _ 3 _ _ _ hg8
        have H8 := Lib.hid hb28
        have HW8 := Lib.hid hw8
        clear hel7 hb7 hs7 hg7 hw8 hg8 hne8 hs8 hso hso6 hbo7 hbo8 hb28 HAP
        go_upto_region 9 with fail
        rw [← HW8.out]
        go_wp2_with fail
        refine HAQ.out.mono ?_
        rintro e w9 ⟨R9, v9, rfl, hin9, hbg9, hb9⟩
        have HF := Lib.hid (And.intro hin9 (And.intro hbg9 (H8.out.trans (hb9.mono H8.out.size))))
        clear hin9 hbg9 hb9
        go_wp2_with fail
        go_roundw
        case rel => exact ⟨k + 1, R9, by go_num, by omega, HF.out.1, HF.out.2.1, HF.out.2.2⟩
        case measure => simp [intOf]; omega
    · have HF := Lib.hid (And.intro hbg (And.intro hin (HB2.out.trans (hb.mono HB2.out.size))))
      clear hin hbg hb
      go_wp2_with fail
      go_ret
      exact ⟨R, _, rfl, HF.out.1, HF.out.2.1, HF.out.2.2⟩
end Go.Proofs.YtefifkleamiabaaGreatDoor

namespace Go.Proofs.YtefifkleamiabaaGreatDoor
open Go.RowKit Go.Sort

/-- The base schema, with constraints (at most, bound) on the item's size. -/
structure SC (s : Sc) (IA IP OA OP FC : Option Addr) (fcc : Nat) (cl : List (Bool × Int)) : Prop where
  tabs : s.tabs = [bItem IA IP, bOrder OA OP]
  fks : s.fks = [⟨nOrder, FC, fcc, [1], nItem⟩]
  cns : s.cns = cl.map fun p => bCn nItem p.1 p.2
  len : cl.length ≤ 8
/-- Is the row's second value well? -/
def szOk (cl : List (Bool × Int)) (i : Nat) (r : Row) : Bool := match cl[i]?, r[1]? with
  | some p, some v => satV p.1 p.2 v
  | _, _ => true
theorem RG.v1 {cols : List Col} {r : Row} (h : RG cols r) : ∃ v, r[1]? = some v ∧ NS v := by
  rcases h.c1 with h | ⟨x, hx, h⟩
  · exact ⟨_, h, .inl rfl⟩
  · exact ⟨_, h, .inr ⟨x, hx, rfl⟩⟩
section
variable {s : Sc} {IA IP OA OP FC : Option Addr} {fcc : Nat} {cl : List (Bool × Int)} {R : Nat → List Row} {A A0 A1 : Option Addr} {c c0 c1 : Nat} {k0 k1 : List Key}

theorem refC (hS : SC s IA IP OA OP FC fcc cl) (hR : BG R) (e0 : k0.map Key.row = R 0) : RefC s [⟨nItem, A0, c0, k0⟩, ⟨nOrder, A1, c1, k1⟩] ⟨nOrder, FC, fcc, [1], nItem⟩ 0 := by
  obtain ⟨TA, tc, tabs, FA, fc, fks, NA, nc, cns⟩ := s
  obtain ⟨h1, h2, h3, h4⟩ := hS
  simp only at h1
  subst h1
  have hl := hR.len (i := 0) (by omega)
  rw [← e0, List.length_map] at hl
  exact ⟨by show 2 ≤ 1000; omega, by show 0 < 2; omega, by show 0 < 2; omega, tabI_nTab (ti := 0) (by omega) _ _ _ _, ⟨by show 4 ≤ 1000; omega, by show 1 ≤ 12; omega⟩, by show k0.length ≤ 1000; omega, rfl⟩

theorem ref_val (hR : BG R) {r : Row} {v : Val} (hv : r[1]? = some v) (hn : NS v) : (decide (v.kind = 0) || rff [0] [v] (R 0)) = refOk (R 0) r := by
  unfold refOk
  rw [hv]
  rcases hn with rfl | ⟨x, -, rfl⟩
  · rfl
  · show (false || rff [0] (ik (x : Int)) (R 0)) = (false || (R 0).any fun y => decide (dgK [0] y = x))
    rw [rff_srt x (R 0) (fun y hy => hR.row 0 (by omega) y hy) (hR.srt 0 (by omega))]

theorem vioH_fk (hS : SC s IA IP OA OP FC fcc cl) (W : World) (hs : ScOk (· < W.heap.size) W s) (hin : InOk (· < W.heap.size) W A [⟨nItem, A0, c0, k0⟩, ⟨nOrder, A1, c1, k1⟩]) (hR : BG R) (e0 : k0.map Key.row = R 0) (e1 : k1.map Key.row = R 1) :
    VioH W (.slice A 2 c) s.v s.fks.length (fun i => (s.fks.map FkM.name).getD i ⟨#[]⟩) 86 (fun i v => #[s.v, .slice A 2 c, (s.fks.map FkM.val).getD i undef, v]) (fun _ => bOrder OA OP) (fun _ r => refOk (R 0) r) (fun _ => R 1) := by
  have hC := refC (A0 := A0) (A1 := A1) (c0 := c0) (c1 := c1) (k1 := k1) hS hR e0
  obtain ⟨TA, tc, tabs, FA, fc, fks, NA, nc, cns⟩ := s
  obtain ⟨h1, h2, h3, h4⟩ := hS
  simp only at h1 h2 h3
  subst h1 h2 h3
  have hl0 := hR.len (i := 0) (by omega)
  have hl1 := hR.len (i := 1) (by omega)
  refine ⟨by show 1 ≤ 8; omega, fun i _ => by show (R 1).length ≤ 24; omega, fun i _ => rfl, fun i hi W' hW => ?_, fun i hi W' hW k hk hm => ?_⟩
  · have hi : i < 1 := hi
    obtain rfl : i = 0 := by omega
    have h := tableW ⟨TA, tc, [bItem IA IP, bOrder OA OP], FA, fc, _, NA, nc, _⟩ A c [⟨nItem, A0, c0, k0⟩, ⟨nOrder, A1, c1, k1⟩] 1 nOrder W' (hs.on hW) (by show 2 ≤ 1000; omega) (by show 1 < 2; omega) (by show 1 < 2; omega) (tabI_nTab (ti := 1) (by omega) _ _ _ _) (hin.on hW) ⟨by show 3 ≤ 1000; omega, by show 1 ≤ 1000; omega⟩ (by show k1.length ≤ 1000; rw [← e1, List.length_map] at hl1; omega)
    rw [← e1]
    exact h
  · have hi : i < 1 := hi
    obtain rfl : i = 0 := by omega
    obtain ⟨v, hv, hn⟩ := (hR.row 1 (by omega) _ hm).v1
    have h := referencesW ⟨TA, tc, [bItem IA IP, bOrder OA OP], FA, fc, _, NA, nc, _⟩ A c [⟨nItem, A0, c0, k0⟩, ⟨nOrder, A1, c1, k1⟩] ⟨nOrder, FC, fcc, [1], nItem⟩ 0 k v W' (hs.on hW) (hin.on hW) ((hs.on hW).fk _ (by simp)) hk hC hv
    have e : (decide (v.kind = 0) || rff [0] [v] (k0.map Key.row)) = refOk (R 0) k.row := by rw [e0]; exact ref_val hR hv hn
    exact h.mono fun _ _ hh => ⟨hh.1.trans (congrArg (fun b => Ending.returned (Value.bool b)) e), hh.2⟩

theorem vioH_cn (hS : SC s IA IP OA OP FC fcc cl) (W : World) (hs : ScOk (· < W.heap.size) W s) (hin : InOk (· < W.heap.size) W A [⟨nItem, A0, c0, k0⟩, ⟨nOrder, A1, c1, k1⟩]) (hR : BG R) (e0 : k0.map Key.row = R 0) :
    VioH W (.slice A 2 c) s.v s.cns.length (fun i => (s.cns.map Cn.name).getD i ⟨#[]⟩) 87 (fun i v => #[(s.cns.map Cn.val7).getD i undef, v]) (fun _ => bItem IA IP) (szOk cl) (fun _ => R 0) := by
  obtain ⟨TA, tc, tabs, FA, fc, fks, NA, nc, cns⟩ := s
  obtain ⟨h1, h2, h3, h4⟩ := hS
  simp only at h1 h2 h3
  subst h1 h2 h3
  have hl0 := hR.len (i := 0) (by omega)
  refine ⟨by show (cl.map _).length ≤ 8; rw [List.length_map]; exact h4, fun i _ => by show (R 0).length ≤ 24; omega, fun i _ => rfl, fun i hi W' hW => ?_, fun i hi W' hW k hk hm => ?_⟩
  · have hi : i < cl.length := by have h : i < (cl.map _).length := hi; rwa [List.length_map] at h
    have hnm : ((cl.map fun p => bCn nItem p.1 p.2).map Cn.name).getD i ⟨#[]⟩ = nItem := by
      simp [List.getD_eq_getElem?_getD, hi, bCn]
    have h := tableW ⟨TA, tc, [bItem IA IP, bOrder OA OP], FA, fc, _, NA, nc, _⟩ A c [⟨nItem, A0, c0, k0⟩, ⟨nOrder, A1, c1, k1⟩] 0 nItem W' (hs.on hW) (by show 2 ≤ 1000; omega) (by show 0 < 2; omega) (by show 0 < 2; omega) (tabI_nTab (ti := 0) (by omega) _ _ _ _) (hin.on hW) ⟨by show 4 ≤ 1000; omega, by show 1 ≤ 1000; omega⟩ (by show k0.length ≤ 1000; rw [← e0, List.length_map] at hl0; omega)
    simp only [hnm]
    rw [← e0]
    exact h
  · have hi : i < cl.length := by have h : i < (cl.map _).length := hi; rwa [List.length_map] at h
    obtain ⟨v, hv, hn⟩ := (hR.row 0 (by omega) _ hm).v1
    have hval : ((cl.map fun p => bCn nItem p.1 p.2).map Cn.val7).getD i undef = .agg (bCn nItem cl[i].1 cl[i].2).cells := by
      simp [List.getD_eq_getElem?_getD, hi, Cn.val7]
    have h := satisfiesW nItem cl[i].1 cl[i].2 k v W' hk hv hn.ni
    have e : szOk cl i k.row = satV cl[i].1 cl[i].2 v := by
      unfold szOk
      rw [List.getElem?_eq_getElem hi, hv]
    simp only [hval, e]
    exact h

theorem rvh_fk (hS : SC s IA IP OA OP FC fcc cl) (W : World) (hs : ScOk (· < W.heap.size) W s) (hin : InOk (· < W.heap.size) W A [⟨nItem, A0, c0, k0⟩, ⟨nOrder, A1, c1, k1⟩]) (hR : BG R) (e0 : k0.map Key.row = R 0) (e1 : k1.map Key.row = R 1) :
    RVH W (.slice A 2 c) s.v s.fks.length (fun i => (s.fks.map FkM.name).getD i ⟨#[]⟩) 49 (fun i v => #[s.v, .slice A 2 c, (s.fks.map FkM.val).getD i undef, v]) (fun _ r => refOk (R 0) r) (fun _ => A1) (fun _ => c1) (fun _ => k1) := by
  have hC := refC (A0 := A0) (A1 := A1) (c0 := c0) (c1 := c1) (k1 := k1) hS hR e0
  obtain ⟨TA, tc, tabs, FA, fc, fks, NA, nc, cns⟩ := s
  obtain ⟨h1, h2, h3, h4⟩ := hS
  simp only at h1 h2 h3
  subst h1 h2 h3
  have hl1 := hR.len (i := 1) (by omega)
  rw [← e1, List.length_map] at hl1
  refine ⟨by show 1 ≤ 8; omega, fun i _ => by show k1.length ≤ 24; omega, fun i hi W' hW => ?_, fun i _ => hin.rel ⟨nOrder, A1, c1, k1⟩ (by simp), fun i hi W' hW k hk => ?_⟩
  · have hi : i < 1 := hi
    obtain rfl : i = 0 := by omega
    exact rRowsOf ⟨TA, tc, [bItem IA IP, bOrder OA OP], FA, fc, _, NA, nc, _⟩ A c [⟨nItem, A0, c0, k0⟩, ⟨nOrder, A1, c1, k1⟩] nOrder 1 W' (hs.on hW) (hin.on hW).el (by show 2 ≤ 1000; omega) (by show 1 < 2; omega) (by show 1 < 2; omega) (tabI_nTab (ti := 1) (by omega) _ _ _ _)
  · have hi : i < 1 := hi
    obtain rfl : i = 0 := by omega
    have hm : k.row ∈ R 1 := by rw [← e1]; exact List.mem_map_of_mem hk
    obtain ⟨v, hv, hn⟩ := (hR.row 1 (by omega) _ hm).v1
    have hkok : KOk (· < W'.heap.size) W' k := ((hin.on hW).rel ⟨nOrder, A1, c1, k1⟩ (by simp)).row k hk
    have h := rReferences ⟨TA, tc, [bItem IA IP, bOrder OA OP], FA, fc, _, NA, nc, _⟩ A c [⟨nItem, A0, c0, k0⟩, ⟨nOrder, A1, c1, k1⟩] ⟨nOrder, FC, fcc, [1], nItem⟩ 0 k v W' (hs.on hW) (hin.on hW) ((hs.on hW).fk _ (by simp)) hkok hC hv hn rfl (by show Dig [0] (k0.map Key.row); rw [e0]; exact hR.digs (by omega))
    have e : (decide (v.kind = 0) || (k0.map Key.row).any fun x => decide (dgK [0] x = v.int.toNat)) = refOk (R 0) k.row := by
      unfold refOk
      rw [hv, e0]
    exact h.mono fun _ _ hh => ⟨hh.1.trans (congrArg (fun b => Ending.returned (Value.bool b)) e), hh.2⟩

theorem rvh_cn (hS : SC s IA IP OA OP FC fcc cl) (W : World) (hs : ScOk (· < W.heap.size) W s) (hin : InOk (· < W.heap.size) W A [⟨nItem, A0, c0, k0⟩, ⟨nOrder, A1, c1, k1⟩]) (hR : BG R) (e0 : k0.map Key.row = R 0) :
    RVH W (.slice A 2 c) s.v s.cns.length (fun i => (s.cns.map Cn.name).getD i ⟨#[]⟩) 50 (fun i v => #[(s.cns.map Cn.val7).getD i undef, v]) (szOk cl) (fun _ => A0) (fun _ => c0) (fun _ => k0) := by
  obtain ⟨TA, tc, tabs, FA, fc, fks, NA, nc, cns⟩ := s
  obtain ⟨h1, h2, h3, h4⟩ := hS
  simp only at h1 h2 h3
  subst h1 h2 h3
  have hl0 := hR.len (i := 0) (by omega)
  rw [← e0, List.length_map] at hl0
  refine ⟨by show (cl.map _).length ≤ 8; rw [List.length_map]; exact h4, fun i _ => by show k0.length ≤ 24; omega, fun i hi W' hW => ?_, fun i _ => hin.rel ⟨nItem, A0, c0, k0⟩ (by simp), fun i hi W' hW k hk => ?_⟩
  · have hi : i < cl.length := by have h : i < (cl.map _).length := hi; rwa [List.length_map] at h
    have hnm : ((cl.map fun p => bCn nItem p.1 p.2).map Cn.name).getD i ⟨#[]⟩ = nItem := by
      simp [List.getD_eq_getElem?_getD, hi, bCn]
    simp only [hnm]
    exact rRowsOf ⟨TA, tc, [bItem IA IP, bOrder OA OP], FA, fc, _, NA, nc, _⟩ A c [⟨nItem, A0, c0, k0⟩, ⟨nOrder, A1, c1, k1⟩] nItem 0 W' (hs.on hW) (hin.on hW).el (by show 2 ≤ 1000; omega) (by show 0 < 2; omega) (by show 0 < 2; omega) (tabI_nTab (ti := 0) (by omega) _ _ _ _)
  · have hi : i < cl.length := by have h : i < (cl.map _).length := hi; rwa [List.length_map] at h
    have hm : k.row ∈ R 0 := by rw [← e0]; exact List.mem_map_of_mem hk
    obtain ⟨v, hv, hn⟩ := (hR.row 0 (by omega) _ hm).v1
    have hkok : KOk (· < W'.heap.size) W' k := ((hin.on hW).rel ⟨nItem, A0, c0, k0⟩ (by simp)).row k hk
    have hval : ((cl.map fun p => bCn nItem p.1 p.2).map Cn.val7).getD i undef = .agg (bCn nItem cl[i].1 cl[i].2).cells := by
      simp [List.getD_eq_getElem?_getD, hi, Cn.val7]
    have h := rSatisfies nItem cl[i].1 cl[i].2 k v W' hkok hv hn.ni
    have e : szOk cl i k.row = satV cl[i].1 cl[i].2 v := by
      unfold szOk
      rw [List.getElem?_eq_getElem hi, hv]
    simp only [hval, e]
    exact h
end
theorem vioD_nil {err : Int} {Q : Nat → Row → Bool} {rows : Nat → List Row} {ks : Nat → List Key} {n : Nat} (h : ∀ i, i < n → (ks i).map Key.row = rows i) : (vioD err Q rows n = [] ↔ allOk Q ks n = true) := by
  constructor
  · intro hv
    refine allOk_true fun i hi k hk => ?_
    unfold vioD at hv
    rw [List.flatMap_eq_nil_iff] at hv
    have h1 := hv i (List.mem_range.2 hi)
    unfold vioR at h1
    rw [List.map_eq_nil_iff, List.filter_eq_nil_iff] at h1
    have h2 := h1 k.row (by rw [← h i hi]; exact List.mem_map_of_mem hk)
    simpa using h2
  · intro ha
    unfold vioD
    rw [List.flatMap_eq_nil_iff]
    intro i hi
    unfold vioR
    rw [List.map_eq_nil_iff, List.filter_eq_nil_iff]
    intro r hr
    rw [← h i (List.mem_range.1 hi)] at hr
    obtain ⟨k, hk, rfl⟩ := List.mem_map.1 hr
    unfold allOk at ha
    have := List.all_eq_true.1 (List.all_eq_true.1 ha i hi) k hk
    simp [this]
end Go.Proofs.YtefifkleamiabaaGreatDoor

namespace Go.Proofs.YtefifkleamiabaaGreatDoor
open Go.RowKit Go.Sort

theorem one_own (w : World) (x : Int) : Own 1 intCs 3 w.heap.size (w.alloc (.cells #[.int .i64 x] 3)) (.slice (some ⟨w.heap.size, 0, none⟩) 1 1) [x] :=
  World.ownsRow_lit (base := w.heap.size) (e := 3) (size := 1) w #[.int .i64 x] 1 (Nat.le_refl _) (by unfold maxLen; omega) (by simp)
theorem bSc_sc {T IA IP OA OP F FC N : Option Addr} : SC (bSc T IA IP OA OP F FC N) IA IP OA OP FC 1 [(true, 6)] := ⟨rfl, rfl, rfl, by show 1 ≤ 8; omega⟩

theorem vioD_len (err : Int) (Q : Nat → Row → Bool) (rows : Nat → List Row) (m : Nat) (h : ∀ i, (rows i).length ≤ m) : ∀ n, (vioD err Q rows n).length ≤ n * m
  | 0 => Nat.zero_le _
  | n + 1 => by
    have ih := vioD_len err Q rows m h n
    rw [vioD_succ, List.length_append, Nat.succ_mul]
    have : (vioR err (n : Int) (Q n) (rows n)).length ≤ m := by
      unfold vioR
      rw [List.length_map]
      exact Nat.le_trans (List.length_filter_le _ _) (h n)
    omega
/-- Find at the base schema with constraints. -/
theorem findB {s : Sc} {IA IP OA OP FC : Option Addr} {fcc : Nat} {cl : List (Bool × Int)} {R : Nat → List Row} {A A0 A1 : Option Addr} {c c0 c1 : Nat} {k0 k1 : List Key} (hS : SC s IA IP OA OP FC fcc cl) (W : World) (hs : ScOk (· < W.heap.size) W s) (hin : InOk (· < W.heap.size) W A [⟨nItem, A0, c0, k0⟩, ⟨nOrder, A1, c1, k1⟩]) (hR : BG R) (e0 : k0.map Key.row = R 0) (e1 : k1.map Key.row = R 1)
    (hV : ∀ W', Below W.heap.size W W' → Calls Tryz.prog 44 #[s.v] W' fun e w' => e = .returned (.int .i64 0) ∧ Below W'.heap.size W' w') :
    Calls Tryz.prog 19 #[s.v, .slice A 2 c] W (FindAns W (vioD 10 (fun _ r => refOk (R 0) r) (fun _ => R 1) 1 ++ vioD 11 (szOk cl) (fun _ => R 0) cl.length)) := by
  have hinC : InC s.tabs [⟨nItem, A0, c0, k0⟩, ⟨nOrder, A1, c1, k1⟩] := by rw [hS.tabs]; exact hR.inC e0 e1
  have n1 : s.fks.length = 1 := by rw [hS.fks]; rfl
  have n2 : s.cns.length = cl.length := by rw [hS.cns, List.length_map]
  have hlen : (vioD 10 (fun _ r => refOk (R 0) r) (fun _ => R 1) s.fks.length).length + (vioD 11 (szOk cl) (fun _ => R 0) s.cns.length).length ≤ 1000 := by
    have h1 := vioD_len 10 (fun _ r => refOk (R 0) r) (fun _ => R 1) 8 (fun _ => hR.len (i := 1) (by omega)) s.fks.length
    have h2 := vioD_len 11 (szOk cl) (fun _ => R 0) 8 (fun _ => hR.len (i := 0) (by omega)) s.cns.length
    have h3 := hS.len
    omega
  have h := findW s (.slice A 2 c) (fun _ => bOrder OA OP) (fun _ => bItem IA IP) (fun _ r => refOk (R 0) r) (szOk cl) (fun _ => R 1) (fun _ => R 0) W hs hV
    (fun W' hW => conforms s A c [⟨nItem, A0, c0, k0⟩, ⟨nOrder, A1, c1, k1⟩] W' (hs.on hW) (hin.on hW) hinC) (fun W' hW => vioH_fk hS W' (hs.on hW) (hin.on hW) hR e0 e1) (fun W' hW => vioH_cn hS W' (hs.on hW) (hin.on hW) hR e0) hlen
  rw [n1, n2] at h
  exact h
/-- ValidateInstance at it. -/
theorem validB {s : Sc} {IA IP OA OP FC : Option Addr} {fcc : Nat} {cl : List (Bool × Int)} {R : Nat → List Row} {A A0 A1 : Option Addr} {c c0 c1 : Nat} {k0 k1 : List Key} (hS : SC s IA IP OA OP FC fcc cl) (W : World) (hs : ScOk (· < W.heap.size) W s) (hin : InOk (· < W.heap.size) W A [⟨nItem, A0, c0, k0⟩, ⟨nOrder, A1, c1, k1⟩]) (hR : BG R) (e0 : k0.map Key.row = R 0) (e1 : k1.map Key.row = R 1) :
    Calls Tryz.prog 20 #[s.v, .slice A 2 c] W fun e w' => e = .returned (.int .i64 (vAns (allOk (fun _ r => refOk (R 0) r) (fun _ => k1) 1) (allOk (szOk cl) (fun _ => k0) cl.length))) ∧ Below W.heap.size W w' := by
  have hinC : InC s.tabs [⟨nItem, A0, c0, k0⟩, ⟨nOrder, A1, c1, k1⟩] := by rw [hS.tabs]; exact hR.inC e0 e1
  have hpk : ∀ i (h : i < s.tabs.length), s.tabs[i].pk = [0] := fun i h => by
    have h2 : i < 2 := by rw [hS.tabs] at h; exact h
    simp only [hS.tabs]
    rcases i with _ | _ | i
    · rfl
    · rfl
    · omega
  have n1 : s.fks.length = 1 := by rw [hS.fks]; rfl
  have n2 : s.cns.length = cl.length := by rw [hS.cns, List.length_map]
  have h := rValidateInst s (.slice A 2 c) (fun _ r => refOk (R 0) r) (szOk cl) (fun _ => A1) (fun _ => A0) (fun _ => c1) (fun _ => c0) (fun _ => k1) (fun _ => k0) W hs
    (fun W' hW => rConforms s A c [⟨nItem, A0, c0, k0⟩, ⟨nOrder, A1, c1, k1⟩] W' (hs.on hW) (hin.on hW) hinC (fun i h h' => by
      intro r hr
      rw [hpk i h']
      have h : i < 2 := h
      rcases i with _ | _ | i
      · exact ⟨_, (hR.row 0 (by omega) r (by rw [← e0]; exact hr)).key⟩
      · exact ⟨_, (hR.row 1 (by omega) r (by rw [← e1]; exact hr)).key⟩
      · omega))
    (rvh_fk hS W hs hin hR e0 e1) (rvh_cn hS W hs hin hR e0)
  rw [n1, n2] at h
  exact h
/-- Find and ValidateInstance agree. -/
theorem agree (n : Nat) (d1 d2 : List (Int × Int × Row)) (vs : List Vio) (a b : Bool) (hn : n = vs.length) (hd : vs.map Vio.d = d1 ++ d2) (h1 : d1 = [] ↔ a = true) (h2 : d2 = [] ↔ b = true) :
    (n = 0 ∧ vAns a b = 0) ∨ (0 < n ∧ (vAns a b = 10 ∨ vAns a b = 11)) := by
  have hl := congrArg List.length hd
  rw [List.length_map, List.length_append, ← hn] at hl
  cases a with
  | false =>
    have : d1 ≠ [] := fun h => by have := h1.1 h; cases this
    have := List.length_pos_iff.2 this
    exact .inr ⟨by omega, .inl rfl⟩
  | true =>
    cases b with
    | false =>
      have : d2 ≠ [] := fun h => by have := h2.1 h; cases this
      have := List.length_pos_iff.2 this
      exact .inr ⟨by omega, .inr rfl⟩
    | true =>
      rw [h1.2 rfl, h2.2 rfl] at hl
      exact .inl ⟨hl, rfl⟩

set_option maxRecDepth 100000 in
set_option maxHeartbeats 8000000 in
theorem emptyIff_law (A : Option Addr) (c : Nat) (xs : List Int) (w : World) (hx : Elems 1 intCs w (· < w.heap.size) A xs) (hok : ∀ x ∈ xs, I64 x) (hsz : xs.length * 8 ≤ reachBytes) :
    Calls Tryz.prog 6 #[.slice A xs.length c] w fun e w' => e = .returned (.bool true) ∧ Below w.heap.size w w' := by
  have HX := Lib.hid hx
  have HOK : Hid (∀ n ∈ [1] ++ xs, I64 n) := Lib.hid fun n hn => by
    rcases List.mem_append.1 hn with h | h
    · rw [List.mem_singleton.1 h]; unfold I64; omega
    · exact hok n h
  obtain ⟨N, hN⟩ : ∃ N, xs.length = N := ⟨_, rfl⟩
  have hrb : reachBytes ≤ 140737488355320 := by decide
  have H1 : Hid ((([1] : List Int).length + xs.length) * 8 ≤ 140737488355328) := Lib.hid (by simp; omega)
  have H2 : Hid (([1] : List Int).length + xs.length ≤ maxLen) := Lib.hid (by unfold maxLen; simp; omega)
  have H3 : Hid ((([1] ++ xs).length : Int) ≤ 9223372036854775807) := Lib.hid (by rw [List.length_append]; simp; omega)
  rw [hN]
  have HN : Hid (N = xs.length) := Lib.hid hN.symm
  clear hx hok hsz hN hrb
  go_enter Tryz.func6, Tryz.ntmps6
  go_wp2_with fail
  refine (baseSchemaW w).mono ?_
  rintro e w1 ⟨T, IA, IP, OA, OP, F, FC, N2, rfl, hs1, hb1⟩
  rw [show (bSc T IA IP OA OP F FC N2).v = .agg #[.slice T 2 2, .slice F 1 1, .slice N2 1 1] from rfl]
  obtain ⟨w2, hw2⟩ : ∃ w2, w2 = w1.alloc (.cells #[.slice T 2 2, .slice F 1 1, .slice N2 1 1] 27) := ⟨_, rfl⟩
  have hb2 : Below w1.heap.size w1 w2 := by rw [hw2]; exact (Below.refl _ _).alloc (Nat.le_refl _) _
  have hg2 : w2.heap[w1.heap.size]? = some (.cells #[.slice T 2 2, .slice F 1 1, .slice N2 1 1] 27 (0, 0)) := by rw [hw2]; exact heap_alloc_new w1 _
  have hs2 : w1.heap.size < w2.heap.size := by rw [hw2]; simp
  have hb02 := hb1.trans (hb2.mono hb1.size)
  have HBX : Hid (∀ W, Below w2.heap.size w2 W → W.cell? ⟨w1.heap.size, 0, none⟩ = some (.slice T 2 2) ∧ W.cell? ⟨w1.heap.size, 1, none⟩ = some (.slice F 1 1) ∧ W.cell? ⟨w1.heap.size, 2, none⟩ = some (.slice N2 1 1)) := Lib.hid fun W hW => by
    have h := (hW.block _ hs2).trans hg2
    exact ⟨cell_of_row _ _ 0 _ _ _ h, cell_of_row _ _ 1 _ _ _ h, cell_of_row _ _ 2 _ _ _ h⟩
  have HSC : Hid (∀ W, Below w2.heap.size w2 W → ScOk (· < W.heap.size) W (bSc T IA IP OA OP F FC N2)) := Lib.hid fun W hW => (hs1.on hb2).on hW
  have hbl : Below w2.heap.size w2 (w2.alloc (.cells #[.int .i64 1] 3)) := (Below.refl _ _).alloc (Nat.le_refl _) _
  have HX2 := Lib.hid (HX.out.of fun g hg => ⟨(hb02.trans (hbl.mono hb02.size)).block g hg, Nat.lt_of_lt_of_le hg (hb02.trans (hbl.mono hb02.size)).size⟩ : Elems 1 intCs (w2.alloc (.cells #[.int .i64 1] 3)) (· < (w2.alloc (.cells #[.int .i64 1] 3)).heap.size) A xs)
  have HO := Lib.hid (one_own w2 1)
  have HBL := Lib.hid (And.intro hbl hb02)
  have HW2 := Lib.hid hw2
  clear hs1 hb1 hw2 hb2 hg2 hs2 hb02 hbl
  go_upto_region 2 with fail
  rw [← HW2.out]
  have hbl2 : w2.heap.size ≤ (w2.alloc (.cells #[.int .i64 1] 3)).heap.size := HBL.out.1.size
  go_wp2_with (at_builtin; refine wpList_app rfl (.tmp 8) (.tmp 9) _ _ rfl rfl rfl (run_pushs elem_ints intLay _ (w2.alloc (.cells #[.int .i64 1] 3)) _ [1] HO.out HX2.out HN.out H1.out H2.out hbl2) ?_; rintro v3 w3 ⟨ho3, hx3⟩)
  obtain ⟨A3, c3, rfl, hl3, hm3⟩ := ho3.form
  have hb3 : Below w2.heap.size w2 w3 := HBL.out.1.trans (hx3.below (base := w2.heap.size) hbl2 (fun g hg => Nat.le_of_eq (Option.some.inj hg)))
  have HBI := Lib.hid (baseInstanceW A3 c3 ([1] ++ xs) w3 ((ho3.elems intLay.len rfl).more fun k hk => (ho3.lt k hk).2) HOK.out H3.out hl3)
  have HB3 := Lib.hid hb3
  clear ho3 hx3 hl3 hm3 hb3 hbl2
  refine HBI.out.mono ?_
  rintro e w4 ⟨R, v4, rfl, hbg, hin, hb4⟩
  obtain ⟨Ai, ci, A0, c0, k0, A1, c1, k1, rfl, hin, e0, e1⟩ := hin
  have hb24 := HB3.out.trans (hb4.mono HB3.out.size)
  have hS : SC (bSc T IA IP OA OP F FC N2) IA IP OA OP FC 1 [(true, 6)] := bSc_sc
  have HW : Hid (∀ W, Below w4.heap.size w4 W → ScOk (· < W.heap.size) W (bSc T IA IP OA OP F FC N2) ∧ InOk (· < W.heap.size) W Ai [⟨nItem, A0, c0, k0⟩, ⟨nOrder, A1, c1, k1⟩]) := Lib.hid fun W hW => ⟨HSC.out W (hb24.trans (hW.mono hb24.size)), hin.on hW⟩
  have HFD : Hid (Calls Tryz.prog 19 #[.agg #[.slice T 2 2, .slice F 1 1, .slice N2 1 1], .slice Ai 2 ci] w4 (FindAns w4 (vioD 10 (fun _ r => refOk (R 0) r) (fun _ => R 1) 1 ++ vioD 11 (szOk [(true, 6)]) (fun _ => R 0) 1))) := Lib.hid
    (findB hS w4 (HW.out w4 (Below.refl _ _)).1 (HW.out w4 (Below.refl _ _)).2 hbg e0 e1 (fun W hW => schemaValidate _ W (HW.out W hW).1 bSc_val))
  have HVI : Hid (∀ W, Below w4.heap.size w4 W → Calls Tryz.prog 20 #[.agg #[.slice T 2 2, .slice F 1 1, .slice N2 1 1], .slice Ai 2 ci] W fun e w' => e = .returned (.int .i64 (vAns (allOk (fun _ r => refOk (R 0) r) (fun _ => k1) 1) (allOk (szOk [(true, 6)]) (fun _ => k0) 1))) ∧ Below W.heap.size W w') := Lib.hid fun W hW =>
    validB hS W (HW.out W hW).1 (HW.out W hW).2 hbg e0 e1
  have HAG : Hid (∀ (n : Nat) (vs : List Vio), n = vs.length → vs.map Vio.d = vioD 10 (fun _ r => refOk (R 0) r) (fun _ => R 1) 1 ++ vioD 11 (szOk [(true, 6)]) (fun _ => R 0) 1 → (n = 0 ∧ vAns (allOk (fun _ r => refOk (R 0) r) (fun _ => k1) 1) (allOk (szOk [(true, 6)]) (fun _ => k0) 1) = 0) ∨ (0 < n ∧ (vAns (allOk (fun _ r => refOk (R 0) r) (fun _ => k1) 1) (allOk (szOk [(true, 6)]) (fun _ => k0) 1) = 10 ∨ vAns (allOk (fun _ r => refOk (R 0) r) (fun _ => k1) 1) (allOk (szOk [(true, 6)]) (fun _ => k0) 1) = 11))) := Lib.hid fun n vs hn hd =>
    agree n _ _ vs _ _ hn hd (vioD_nil fun _ _ => e1) (vioD_nil fun _ _ => e0)
  generalize vAns (allOk (fun _ r => refOk (R 0) r) (fun _ => k1) 1) (allOk (szOk [(true, 6)]) (fun _ => k0) 1) = ans at *
  generalize vioD 10 (fun _ r => refOk (R 0) r) (fun _ => R 1) 1 ++ vioD 11 (szOk [(true, 6)]) (fun _ => R 0) 1 = ds at *
  have HB4 := Lib.hid hb24
  obtain ⟨x0, x1, x2⟩ := HBX.out w4 hb24
  clear hbg hin e0 e1 hb4 hb24 hS HBI
  go_wp2_with fail
  refine HFD.out.mono ?_
  rintro e w5 ⟨A5, n5, c5, vs5, rfl, -, -, hn5, hd5, hb5⟩
  have hag := HAG.out n5 vs5 hn5 hd5
  have HB5 := Lib.hid hb5
  clear hn5 hd5 HAG x0 x1 x2
  obtain ⟨x0, x1, x2⟩ := HBX.out w5 (HB4.out.trans (hb5.mono HB4.out.size))
  clear hb5
  have HF : Hid (∀ w', Below w5.heap.size w5 w' → Below w.heap.size w w') := Lib.hid fun w' h => HBL.out.2.trans ((HB4.out.trans (HB5.out.mono HB4.out.size)).trans (h.mono (HB4.out.trans (HB5.out.mono HB4.out.size)).size) |>.mono HBL.out.2.size)
  have HV5 := Lib.hid (HVI.out w5 HB5.out)
  clear HVI
  rcases hag with ⟨rfl, rfl⟩ | ⟨hpos, rfl | rfl⟩
  · go_wp2_with fail
    refine HV5.out.mono ?_
    rintro e w6 ⟨rfl, hb6⟩
    have HG := Lib.hid (HF.out w6 hb6)
    clear hb6
    go_wp2_with fail
    go_ret
    exact ⟨rfl, HG.out⟩
  · have hne : ((n5 : Int) == 0) = false := by rw [beq_eq_false_iff_ne]; omega
    go_wp2_with fail
    refine HV5.out.mono ?_
    rintro e w6 ⟨rfl, hb6⟩
    have HG := Lib.hid (HF.out w6 hb6)
    clear hb6
    go_wp2_with fail
    go_ret
    exact ⟨by simp, HG.out⟩
  · have hne : ((n5 : Int) == 0) = false := by rw [beq_eq_false_iff_ne]; omega
    go_wp2_with fail
    refine HV5.out.mono ?_
    rintro e w6 ⟨rfl, hb6⟩
    have HG := Lib.hid (HF.out w6 hb6)
    clear hb6
    go_wp2_with fail
    go_ret
    exact ⟨by simp, HG.out⟩
end Go.Proofs.YtefifkleamiabaaGreatDoor
