/-
  The walks of the reference's validateForeignKey, validateConstraint, ValidateSchema.
  The walks of the reference's ValidOp, validateConstraint.
  The walk of the reference's ValidateSchema.
  The walk of the reference's Conforms, where the keys are one integer each.
  The walks of the reference's ValidateChange and AffectedKey.
-/
import Derived.Test.YtefifkleamiabaaGreatDoorUm11
namespace Go.Proofs.YtefifkleamiabaaGreatDoor
open Go.RowKit Go.Sort

set_option maxRecDepth 100000 in
set_option maxHeartbeats 8000000 in
theorem rValidateFk (s : Sc) (f : FkM) (i k : Nat) (w : World) (hs : ScOk (· < w.heap.size) w s) (hf : Elems 1 intCs w (· < w.heap.size) f.A f.cols) (hv : FkV s f i k) (hl : s.tabs.length ≤ 1000) (hfl : f.cols.length ≤ 1000) :
    Calls Tryz.prog 54 #[s.v, f.val] w fun e w' => e = .returned (.int .i64 0) ∧ Below w.heap.size w w' := by
  have hil := hv.il
  have hkl := hv.kl
  obtain ⟨tb, toff, hTA, -, -⟩ := hs.tabs.tbl (k := 0) (by omega)
  have HF1 : Hid (∀ W m, Below w.heap.size w W → Calls Tryz.prog 30 #[s.v, .string f.name] (W.drewN m) fun e w' => e = .returned (.pointer (some ⟨tb, toff + i * 3, none⟩)) ∧ Below W.heap.size W w') := Lib.hid fun W m hW => by
    have hd : Below W.heap.size W (W.drewN m) := below_drewN (Below.refl _ _) m
    exact (rFindTable s f.name i (W.drewN m) (hs.on (hW.trans (hd.mono hW.size))) hl hil hv.fi tb toff hTA).mono fun e w' h => ⟨h.1, hd.trans h.2⟩
  have HF2 : Hid (∀ W m, Below w.heap.size w W → Calls Tryz.prog 30 #[s.v, .string f.ref] (W.drewN m) fun e w' => e = .returned (.pointer (some ⟨tb, toff + k * 3, none⟩)) ∧ Below W.heap.size W w') := Lib.hid fun W m hW => by
    have hd : Below W.heap.size W (W.drewN m) := below_drewN (Below.refl _ _) m
    exact (rFindTable s f.ref k (W.drewN m) (hs.on (hW.trans (hd.mono hW.size))) hl hkl hv.fk tb toff hTA).mono fun e w' h => ⟨h.1, hd.trans h.2⟩
  obtain ⟨n, hn⟩ : ∃ n, f.cols.length = n := ⟨_, rfl⟩
  have hpn : s.tabs[k].pk.length = n := by rw [← hn]; exact hv.len.symm
  obtain ⟨w1, hw1⟩ : ∃ w1, w1 = (w.alloc (.cells s.cells 27)).alloc (.cells #[.string f.name, .slice f.A n f.c, .string f.ref] 73) := ⟨_, rfl⟩
  obtain ⟨g0, g1, hb1, hs1⟩ := (show w1.heap[w.heap.size]? = some (.cells s.cells 27 (0, 0)) ∧ w1.heap[w.heap.size + 1]? = some (.cells #[.string f.name, .slice f.A n f.c, .string f.ref] 73 (0, 0)) ∧ Below w.heap.size w w1 ∧ w1.heap.size = w.heap.size + 2 from by
    rw [hw1]
    exact ⟨by rw [Below.heap_alloc _ _ _ (by simp)]; exact heap_alloc_new w _, alloc2_at w _ _, ((Below.refl _ _).alloc (Nat.le_refl _) _).alloc (le_size1 (Nat.le_refl _) _) _, by simp⟩)
  unfold Sc.cells at g0
  have HSX : Hid (∀ W, Below w1.heap.size w1 W → W.cell? ⟨w.heap.size, 0, none⟩ = some (.slice s.TA s.tabs.length s.tc) ∧ W.cell? ⟨w.heap.size, 1, none⟩ = some (.slice s.FA s.fks.length s.fc) ∧ W.cell? ⟨w.heap.size, 2, none⟩ = some (.slice s.NA s.cns.length s.nc) ∧ W.cell? ⟨w.heap.size + 1, 0, none⟩ = some (.string f.name) ∧ W.cell? ⟨w.heap.size + 1, 1, none⟩ = some (.slice f.A n f.c) ∧ W.cell? ⟨w.heap.size + 1, 2, none⟩ = some (.string f.ref)) := Lib.hid fun W hW => by
    have e0 := (hW.block w.heap.size (by omega)).trans g0
    have e1 := (hW.block (w.heap.size + 1) (by omega)).trans g1
    exact ⟨cell_of_row _ _ 0 _ _ _ e0, cell_of_row _ _ 1 _ _ _ e0, cell_of_row _ _ 2 _ _ _ e0, cell_of_row _ _ 0 _ _ _ e1, cell_of_row _ _ 1 _ _ _ e1, cell_of_row _ _ 2 _ _ _ e1⟩
  have HTK : Hid (∀ W, Below w.heap.size w W → (W.cell? ⟨tb, toff + i * 3 + 1, none⟩ = some (.slice s.tabs[i].CA s.tabs[i].cols.length s.tabs[i].cc)) ∧ W.cell? ⟨tb, toff + k * 3 + 1, none⟩ = some (.slice s.tabs[k].CA s.tabs[k].cols.length s.tabs[k].cc) ∧ W.cell? ⟨tb, toff + k * 3 + 2, none⟩ = some (.slice s.tabs[k].PA n s.tabs[k].pc)) := Lib.hid fun W hW => by
    obtain ⟨tb1, to1, e1, -, p0, p1, p2⟩ := (hs.on hW).tabs.tbl hil
    obtain ⟨tb2, to2, e2, -, q0, q1, q2⟩ := (hs.on hW).tabs.tbl hkl
    rw [hTA] at e1 e2
    injection e1 with e1
    injection e1 with e11 e12
    injection e2 with e2
    injection e2 with e21 e22
    subst e11 e12 e21 e22
    rw [hpn] at q2
    exact ⟨p1, q1, q2⟩
  have HTI := Lib.hid fun W (hW : Below w.heap.size w W) => (hs.on hW).tab _ (List.getElem_mem hil)
  have HTKK := Lib.hid fun W (hW : Below w.heap.size w W) => (hs.on hW).tab _ (List.getElem_mem hkl)
  have HFC := Lib.hid hf
  have HV := Lib.hid hv
  have HN := Lib.hid (And.intro hn hpn)
  have HB1 := Lib.hid hb1
  have HW1 := Lib.hid hw1
  rw [hn] at hfl
  have hs0 := HSX.out w1 (Below.refl _ _)
  unfold Sc.cells at HW1
  unfold Sc.v Sc.cells at HF1 HF2 ⊢
  unfold FkM.val
  rw [hn]
  clear hs hf hv hn hpn hw1 g0 g1 hb1 hs1 hTA hl
  go_enter Tryz.func54, Tryz.ntmps54
  go_upto_region 1 with fail
  rw [← HW1.out]
  go_cut [5, 6] from 9 to 16 (fun v5 v6 wx => v5 = .pointer (some ⟨tb, toff + i * 3, none⟩) ∧ v6 = .pointer (some ⟨tb, toff + k * 3, none⟩) ∧ Below w1.heap.size w1 wx)
  case first =>
    go_region_held3 (fun W => W.cell? ⟨w.heap.size, 0, none⟩ = some (.slice s.TA s.tabs.length s.tc) ∧ W.cell? ⟨w.heap.size, 1, none⟩ = some (.slice s.FA s.fks.length s.fc) ∧ W.cell? ⟨w.heap.size, 2, none⟩ = some (.slice s.NA s.cns.length s.nc) ∧ W.cell? ⟨w.heap.size + 1, 0, none⟩ = some (.string f.name) ∧ W.cell? ⟨w.heap.size + 1, 1, none⟩ = some (.slice f.A n f.c) ∧ W.cell? ⟨w.heap.size + 1, 2, none⟩ = some (.string f.ref)) (first | exact hs0 | exact s9 | exact s8)
      (first
      | (go_at_call 30; refine (HF2.out w2 0 (HB1.out.trans (hb2.mono HB1.out.size))).mono ?_; rintro e w3 ⟨rfl, hb3⟩; have s9 := HSX.out w3 (hb2.trans (hb3.mono hb2.size)))
      | (go_at_call 30; refine (HF1.out w1 1 HB1.out).mono ?_; rintro e w2 ⟨rfl, hb2⟩; have s8 := HSX.out w2 hb2))
    all_goals
      have HB3 := Lib.hid (hb2.trans (hb3.mono hb2.size))
      clear hb2 hb3 s8 s9
      go_wp2_with fail
      go_meet
      exact ⟨rfl, rfl, HB3.out⟩
  case rest =>
    obtain ⟨rfl, rfl, hb2⟩ := hcut
    obtain ⟨w2, rfl⟩ : ∃ w2, w2 = wc := ⟨_, rfl⟩
    have HB2 := Lib.hid (And.intro hb2 (HB1.out.trans (hb2.mono HB1.out.size)))
    obtain ⟨-, -, -, f0, f1, f2⟩ := HSX.out w2 hb2
    obtain ⟨t1, r1, r2⟩ := HTK.out w2 HB2.out.2
    clear hb2 hs0
    go_upto_region 4 with fail
    go_quiet (fail)
    go_wp2_with fail
    go_loopw [37] (fun vi wr => ∃ m : Nat, vi = .int .i64 (m : Int) ∧ m ≤ n ∧ Below w2.heap.size w2 wr) (fun vi _ => n - (intOf vi).toNat)
    case atStart => exact ⟨0, rfl, by omega, by first | exact Below.refl _ _ | exact below_drewN (Below.refl _ _) _⟩
    case round =>
      obtain ⟨m, rfl, hmn, hb⟩ := hrel
      obtain ⟨wo, rfl⟩ : ∃ wo, wo = wr := ⟨_, rfl⟩
      have hbo := HB2.out.2.trans (hb.mono HB2.out.2.size)
      by_cases hlt : m < n
      · have hmf : m < f.cols.length := by have := HN.out.1; omega
        have hmp : m < s.tabs[k].pk.length := by have := HN.out.2; omega
        obtain ⟨v0, v1, v2, v3, v4⟩ := HV.out.col m hmf hmp
        obtain ⟨c, hc⟩ := Int.eq_ofNat_of_zero_le v0
        obtain ⟨p, hp⟩ := Int.eq_ofNat_of_zero_le v2
        rw [hc] at v1 v4
        rw [hp] at v3 v4
        rw [Int.toNat_natCast, Int.toNat_natCast] at v4
        have hci : c < s.tabs[i].cols.length := by omega
        have hpk2 : p < s.tabs[k].cols.length := by omega
        have v4 : s.tabs[i].cols[c].kind = s.tabs[k].cols[p].kind := by
          have h := v4
          rw [List.getD_eq_getElem?_getD, List.getD_eq_getElem?_getD, List.getElem?_eq_getElem hci, List.getElem?_eq_getElem hpk2] at h
          exact h
        obtain ⟨bf, of, hFA, -, q0⟩ := (HFC.out.on hbo).int hmf
        rw [hc] at q0
        obtain ⟨b3, o3, hC1, -, -, y1, -⟩ := (HTI.out wo hbo).cols.col hci
        obtain ⟨b4, o4, hC2, -, -, y2, -⟩ := (HTKK.out wo hbo).cols.col hpk2
        obtain ⟨b5, o5, hP5, -, y3⟩ := (HTKK.out wo hbo).pk.int hmp
        rw [hp] at y3
        rw [v4] at y1
        have hb1o := HB2.out.1.trans (hb.mono HB2.out.1.size)
        clear f0 f1 f2 t1 r1 r2
        obtain ⟨-, -, -, f0, f1, f2⟩ := HSX.out wo hb1o
        obtain ⟨t1, r1, r2⟩ := HTK.out wo hbo
        rw [hC1] at t1
        rw [hC2] at r1
        rw [hP5] at r2
        have HBO := Lib.hid hb
        rw [hFA]
        have hlt' : (m : Int) < (n : Int) := by omega
        have hci' : (c : Int) < (s.tabs[i].cols.length : Int) := by omega
        have hci2 : ¬ (s.tabs[i].cols.length : Int) ≤ (c : Int) := by omega
        have hpk3 : (p : Int) < (s.tabs[k].cols.length : Int) := by omega
        clear hb hbo hb1o v0 v1 v2 v3 v4 hc hp hC1 hC2 hP5 hFA
        go_upto_region 11 with fail
        go_quiet (fail)
        go_wp2_with fail
        go_roundw
        case rel => exact ⟨m + 1, by go_num, by omega, below_drewN HBO.out _⟩
        case measure => simp [intOf]; omega
      · have hmn' : m = n := by omega
        subst hmn'
        have HE := Lib.hid hbo
        clear hb hbo
        go_wp2_with fail
        go_ret
        exact ⟨rfl, HE.out⟩
end Go.Proofs.YtefifkleamiabaaGreatDoor

namespace Go.Proofs.YtefifkleamiabaaGreatDoor
open Go.RowKit Go.Sort

set_option maxRecDepth 100000 in
theorem rValidOp (op : ByteArray) (w : World) (h : OpV op) :
    Calls Tryz.prog 95 #[.string op] w fun e w' => e = .returned (.bool true) ∧ w = w' := by
  have e1 : ((⟨#[60]⟩ : ByteArray).toList == (⟨#[61]⟩ : ByteArray).toList) = false := by decide +kernel
  have e2 : ((⟨#[60, 61]⟩ : ByteArray).toList == (⟨#[61]⟩ : ByteArray).toList) = false := by decide +kernel
  have e3 : ((⟨#[60, 61]⟩ : ByteArray).toList == (⟨#[60]⟩ : ByteArray).toList) = false := by decide +kernel
  rcases h with rfl | rfl | rfl
  all_goals
    go_enter Tryz.func95, Tryz.ntmps95
    go_wp2_with fail
    go_ret
    exact ⟨rfl, rfl⟩

set_option maxRecDepth 100000 in
set_option maxHeartbeats 8000000 in
theorem rValidateCn (s : Sc) (c : Cn) (i l : Nat) (w : World) (hs : ScOk (· < w.heap.size) w s) (hv : CnV s c i l) (hl : s.tabs.length ≤ 1000) :
    Calls Tryz.prog 56 #[s.v, .agg c.cells] w fun e w' => e = .returned (.int .i64 0) ∧ Below w.heap.size w w' := by
  have hil := hv.il
  have hll := hv.ll
  have hleft := hv.left
  have hright := hv.right
  have hkind := hv.kind
  obtain ⟨tb, toff, hTA, -, -⟩ := hs.tabs.tbl (k := 0) (by omega)
  have HF1 := Lib.hid fun W (hW : Below w.heap.size w W) => rFindTable s c.name i W (hs.on hW) hl hil hv.fi tb toff hTA
  obtain ⟨n, hn⟩ : ∃ n, s.tabs[i].cols.length = n := ⟨_, rfl⟩
  have hln : l < n := by omega
  obtain ⟨w1, hw1⟩ : ∃ w1, w1 = (w.alloc (.cells s.cells 27)).alloc (.cells c.cells 62) := ⟨_, rfl⟩
  obtain ⟨g0, g1, hb1, hs1⟩ := (show w1.heap[w.heap.size]? = some (.cells s.cells 27 (0, 0)) ∧ w1.heap[w.heap.size + 1]? = some (.cells c.cells 62 (0, 0)) ∧ Below w.heap.size w w1 ∧ w1.heap.size = w.heap.size + 2 from by
    rw [hw1]
    exact ⟨by rw [Below.heap_alloc _ _ _ (by simp)]; exact heap_alloc_new w _, alloc2_at w _ _, ((Below.refl _ _).alloc (Nat.le_refl _) _).alloc (le_size1 (Nat.le_refl _) _) _, by simp⟩)
  unfold Sc.cells at g0
  have HSX : Hid (∀ W, Below w1.heap.size w1 W → (W.cell? ⟨w.heap.size, 0, none⟩ = some (.slice s.TA s.tabs.length s.tc) ∧ W.cell? ⟨w.heap.size, 1, none⟩ = some (.slice s.FA s.fks.length s.fc) ∧ W.cell? ⟨w.heap.size, 2, none⟩ = some (.slice s.NA s.cns.length s.nc)) ∧ (W.cell? ⟨w.heap.size + 1, 0, none⟩ = some (.string c.name) ∧ W.cell? ⟨w.heap.size + 1, 1, none⟩ = some (.int .i64 (l : Int)) ∧ W.cell? ⟨w.heap.size + 1, 2, none⟩ = some (.string c.op) ∧ W.cell? ⟨w.heap.size + 1, 3, none⟩ = some (.int .i64 (-1)) ∧ W.cell? ⟨w.heap.size + 1, 4, none⟩ = some (.int .i64 c.val.kind) ∧ W.cell? ⟨w.heap.size + 1, 5, none⟩ = some (.int .i64 c.val.int) ∧ W.cell? ⟨w.heap.size + 1, 6, none⟩ = some (.string c.val.text))) := Lib.hid fun W hW => by
    have e0 := (hW.block w.heap.size (by omega)).trans g0
    have e1 := (hW.block (w.heap.size + 1) (by omega)).trans g1
    unfold Cn.cells at e1
    rw [hleft, hright] at e1
    exact ⟨⟨cell_of_row _ _ 0 _ _ _ e0, cell_of_row _ _ 1 _ _ _ e0, cell_of_row _ _ 2 _ _ _ e0⟩, cell_of_row _ _ 0 _ _ _ e1, cell_of_row _ _ 1 _ _ _ e1, cell_of_row _ _ 2 _ _ _ e1, cell_of_row _ _ 3 _ _ _ e1, cell_of_row _ _ 4 _ _ _ e1, cell_of_row _ _ 5 _ _ _ e1, cell_of_row _ _ 6 _ _ _ e1⟩
  have HTK : Hid (∀ W, Below w.heap.size w W → ∃ cb co, s.tabs[i].CA = some ⟨cb, co, none⟩ ∧ W.cell? ⟨tb, toff + i * 3 + 1, none⟩ = some (.slice (some ⟨cb, co, none⟩) n s.tabs[i].cc) ∧ W.cell? ⟨cb, co + l * 3 + 1, none⟩ = some (.int .i64 c.val.kind)) := Lib.hid fun W hW => by
    obtain ⟨tb1, to1, e1, -, p0, p1, p2⟩ := (hs.on hW).tabs.tbl hil
    rw [hTA] at e1
    injection e1 with e1
    injection e1 with e11 e12
    subst e11 e12
    obtain ⟨cb, co, e2, -, q0, q1, q2⟩ := ((hs.on hW).tab _ (List.getElem_mem hil)).cols.col hll
    rw [hn, e2] at p1
    rw [← hkind] at q1
    exact ⟨cb, co, e2, p1, q1⟩
  have HVO := Lib.hid fun W => rValidOp c.op W hv.op
  have HVL := Lib.hid fun W => rValidate c.val W hv.err
  have HB1 := Lib.hid hb1
  have HW1 := Lib.hid hw1
  obtain ⟨⟨s0, s1, s2⟩, k0, k1, k2, k3, k4, k5, k6⟩ := HSX.out w1 (Below.refl _ _)
  have hln1 : (l : Int) < (n : Int) := by omega
  have hln2 : ¬ (n : Int) ≤ (l : Int) := by omega
  have hln3 : ¬ (n : Int) ≤ (-1 : Int) := by omega
  unfold Sc.cells Cn.cells at HW1
  unfold Sc.v Sc.cells at HF1 ⊢
  unfold Cn.cells
  rw [hleft, hright] at HW1 ⊢
  clear hs hn hw1 g0 g1 hb1 hs1 hTA hl hleft hright hkind
  go_enter Tryz.func56, Tryz.ntmps56
  go_upto_region 1 with fail
  rw [← HW1.out]
  go_wp2_with fail
  refine (HF1.out w1 HB1.out).mono ?_
  rintro e w2 ⟨rfl, hb2⟩
  have HB2 := Lib.hid (And.intro hb2 (HB1.out.trans (hb2.mono HB1.out.size)))
  clear hb2 s0 s1 s2 k0 k1 k2 k3 k4 k5 k6
  obtain ⟨⟨s0, s1, s2⟩, k0, k1, k2, k3, k4, k5, k6⟩ := HSX.out w2 HB2.out.1
  obtain ⟨cb, co, -, t1, t2⟩ := HTK.out w2 HB2.out.2
  go_wp2_with fail
  refine (HVO.out w2).mono ?_
  rintro e w3 ⟨rfl, rfl⟩
  go_wp2_with fail
  go_quiet (fail)
  go_wp2_with fail
  refine (HVL.out _).mono ?_
  rintro e w4 ⟨rfl, hb4⟩
  have HB4 : Hid (Below w.heap.size w w4) := Lib.hid (HB2.out.2.trans ((below_drewN (Below.refl _ _) _).trans (hb4.mono (Nat.le_refl _)) |>.mono HB2.out.2.size))
  clear hb4
  go_wp2_with fail
  go_ret
  exact ⟨rfl, HB4.out⟩
end Go.Proofs.YtefifkleamiabaaGreatDoor

namespace Go.Proofs.YtefifkleamiabaaGreatDoor
open Go.RowKit Go.Sort

/-- A schema that the reference takes for valid by this walk: keys at the first column, names apart, at most one key and one constraint. -/
structure RefS (s : Sc) : Prop where
  val : SchV s
  one : s.fks.length = 1
  pk : ∀ t ∈ s.tabs, t.pk = [0]
  nd : ∀ t ∈ s.tabs, (t.cols.map Col.name).Nodup
  less : ∀ (i : Nat) (h : i + 1 < s.tabs.length), Op.bytesLess s.tabs[i].name.toList s.tabs[i + 1].name.toList = true
  fk : ∀ f ∈ s.fks, f.name.size < 10 ∧ f.ref.size < 10 ∧ f.cols.length ≤ 6 ∧ ∀ c ∈ f.cols, 0 ≤ c ∧ c < 10
theorem bSc_ref {T IA IP OA OP F FC N : Option Addr} : RefS (bSc T IA IP OA OP F FC N) where
  val := bSc_val
  one := rfl
  pk := fun t ht => by
    simp only [bSc, List.mem_cons, List.not_mem_nil, or_false] at ht
    rcases ht with rfl | rfl <;> rfl
  nd := fun t ht => by
    simp only [bSc, List.mem_cons, List.not_mem_nil, or_false] at ht
    rcases ht with rfl | rfl
    · show (itemCols.map Col.name).Nodup
      decide +kernel
    · show (orderCols.map Col.name).Nodup
      decide +kernel
  less := by
    intro i h
    have h : i + 1 < 2 := h
    obtain rfl : i = 0 := by omega
    show Op.bytesLess nItem.toList nOrder.toList = true
    decide +kernel
  fk := fun f hf => by
    simp only [bSc, List.mem_cons, List.not_mem_nil, or_false] at hf
    subst hf
    refine ⟨by show nOrder.size < 10; decide +kernel, by show nItem.size < 10; decide +kernel, by show 1 ≤ 6; omega, fun c hc => ?_⟩
    rw [List.mem_singleton.1 (show c ∈ [(1 : Int)] from hc)]
    omega

set_option maxRecDepth 100000 in
set_option maxHeartbeats 8000000 in
theorem rValidateSchema (s : Sc) (w : World) (hs : ScOk (· < w.heap.size) w s) (hr : RefS s) :
    Calls Tryz.prog 27 #[s.v] w fun e w' => e = .returned (.int .i64 0) ∧ Below w.heap.size w w' := by
  obtain ⟨n, hn⟩ : ∃ n, s.tabs.length = n := ⟨_, rfl⟩
  obtain ⟨n2, hn2⟩ : ∃ n2, s.fks.length = n2 := ⟨_, rfl⟩
  obtain ⟨n3, hn3⟩ : ∃ n3, s.cns.length = n3 := ⟨_, rfl⟩
  have hn6 : n ≤ 6 := by rw [← hn]; exact hr.val.ntab
  obtain rfl : n2 = 1 := by rw [← hn2]; exact hr.one
  have hn31 : n3 ≤ 1 := by rw [← hn3]; exact hr.val.ncn
  obtain ⟨w1, hw1⟩ : ∃ w1, w1 = w.alloc (.cells #[.slice s.TA n s.tc, .slice s.FA 1 s.fc, .slice s.NA n3 s.nc] 27) := ⟨_, rfl⟩
  have hb1 : Below w.heap.size w w1 := by rw [hw1]; exact (Below.refl _ _).alloc (Nat.le_refl _) _
  have hg1 : w1.heap[w.heap.size]? = some (.cells #[.slice s.TA n s.tc, .slice s.FA 1 s.fc, .slice s.NA n3 s.nc] 27 (0, 0)) := by rw [hw1]; exact heap_alloc_new w _
  have hs1 : w.heap.size < w1.heap.size := by rw [hw1]; simp
  have HBK : Hid (∀ W, Below w1.heap.size w1 W → W.cell? ⟨w.heap.size, 0, none⟩ = some (.slice s.TA n s.tc) ∧ W.cell? ⟨w.heap.size, 1, none⟩ = some (.slice s.FA 1 s.fc) ∧ W.cell? ⟨w.heap.size, 2, none⟩ = some (.slice s.NA n3 s.nc)) := Lib.hid fun W hW => by
    have h := (hW.block w.heap.size hs1).trans hg1
    exact ⟨cell_of_row _ _ 0 _ _ _ h, cell_of_row _ _ 1 _ _ _ h, cell_of_row _ _ 2 _ _ _ h⟩
  have HTV := Lib.hid fun W (hW : Below w.heap.size w W) t (ht : t ∈ s.tabs) => rValidateTable t W ((hs.on hW).tab t ht) (hr.val.tab t ht) (hr.nd t ht) (hr.pk t ht)
  have HFV := Lib.hid fun W (hW : Below w.heap.size w W) f (hf : f ∈ s.fks) => rValidateFk s f _ _ W (hs.on hW) ((hs.on hW).fk f hf) (hr.val.fk f hf).2.choose_spec.choose_spec (by omega) (hr.val.fk f hf).1
  have HFI := Lib.hid fun W (hW : Below w.heap.size w W) f (hf : f ∈ s.fks) => foreignKeyIDW f W ((hs.on hW).fk f hf) (hr.fk f hf).1 (hr.fk f hf).2.1 (hr.fk f hf).2.2.1 (hr.fk f hf).2.2.2
  have HCV := Lib.hid fun W (hW : Below w.heap.size w W) c (hc : c ∈ s.cns) => rValidateCn s c _ _ W (hs.on hW) (hr.val.cn c hc).choose_spec.choose_spec (by omega)
  have HSC := Lib.hid hs
  have HR := Lib.hid hr
  have HN := Lib.hid (And.intro hn (And.intro hn2 hn3))
  have HB1 := Lib.hid hb1
  have HW1 := Lib.hid hw1
  have hmm := @run_makeMap Tryz.prog
  obtain ⟨c0, c1, c2⟩ := HBK.out w1 (Below.refl _ _)
  unfold Sc.v Sc.cells at HFV HCV ⊢
  rw [hn, hn2, hn3] at HFV HCV ⊢
  clear hs hr hn hn2 hn3 hw1 hb1 hg1 hs1
  go_enter Tryz.func27, Tryz.ntmps27
  go_upto_region 1 with fail
  rw [← HW1.out]
  go_wp2_with fail
  go_loopw [35] (fun vi wr => ∃ k : Nat, vi = .int .i64 (k : Int) ∧ k ≤ n ∧ Below w1.heap.size w1 wr) (fun vi _ => n - (intOf vi).toNat)
  case atStart => exact ⟨0, rfl, by omega, Below.refl _ _⟩
  case round =>
    obtain ⟨k, rfl, hkn, hb⟩ := hrel
    obtain ⟨wo, rfl⟩ : ∃ wo, wo = wr := ⟨_, rfl⟩
    have hbw := HB1.out.trans (hb.mono HB1.out.size)
    by_cases hlt : k < n
    · have hkt : k < s.tabs.length := by have := HN.out.1; omega
      obtain ⟨tb, toff, hTA, -, p0, p1, p2⟩ := (HSC.out.on hbw).tabs.tbl hkt
      obtain ⟨w5, hw5⟩ : ∃ w5, w5 = wo.alloc (.cells #[.string s.tabs[k].name, .slice s.tabs[k].CA s.tabs[k].cols.length s.tabs[k].cc, .slice s.tabs[k].PA s.tabs[k].pk.length s.tabs[k].pc] 71) := ⟨_, rfl⟩
      have hb5 : Below wo.heap.size wo w5 := by rw [hw5]; exact (Below.refl _ _).alloc (Nat.le_refl _) _
      have hg5 : w5.heap[wo.heap.size]? = some (.cells #[.string s.tabs[k].name, .slice s.tabs[k].CA s.tabs[k].cols.length s.tabs[k].cc, .slice s.tabs[k].PA s.tabs[k].pk.length s.tabs[k].pc] 71 (0, 0)) := by rw [hw5]; exact heap_alloc_new wo _
      have hs5 : wo.heap.size < w5.heap.size := by rw [hw5]; simp
      have HTB : Hid (∀ W, Below w5.heap.size w5 W → W.cell? ⟨wo.heap.size, 0, none⟩ = some (.string s.tabs[k].name) ∧ W.cell? ⟨wo.heap.size, 1, none⟩ = some (.slice s.tabs[k].CA s.tabs[k].cols.length s.tabs[k].cc) ∧ W.cell? ⟨wo.heap.size, 2, none⟩ = some (.slice s.tabs[k].PA s.tabs[k].pk.length s.tabs[k].pc)) := Lib.hid fun W hW => by
        have h := (hW.block wo.heap.size hs5).trans hg5
        exact ⟨cell_of_row _ _ 0 _ _ _ h, cell_of_row _ _ 1 _ _ _ h, cell_of_row _ _ 2 _ _ _ h⟩
      obtain ⟨y0, y1, y2⟩ := HTB.out w5 (Below.refl _ _)
      have HB5 := Lib.hid (And.intro (hb.trans (hb5.mono hb.size)) (hbw.trans (hb5.mono hbw.size)))
      have HVT := Lib.hid (HTV.out w5 HB5.out.2 _ (List.getElem_mem hkt))
      unfold Tbl.val at HVT
      have HW5 := Lib.hid hw5
      have hlt' : (k : Int) < (n : Int) := by omega
      have HTA := Lib.hid hTA
      rw [hTA]
      clear hb hbw hw5 hb5 hg5 hs5 hTA
      go_upto_region 6 with fail
      rw [← HW5.out]
      go_wp2_with fail
      refine HVT.out.mono ?_
      rintro e w6 ⟨rfl, hb6⟩
      have HB6 := Lib.hid (And.intro (HB5.out.1.trans (hb6.mono HB5.out.1.size)) (HB5.out.2.trans (hb6.mono HB5.out.2.size)))
      clear y0 y1 y2 c0 c1 c2 p0 p1 p2
      obtain ⟨y0, y1, y2⟩ := HTB.out w6 hb6
      clear hb6
      obtain ⟨c0, c1, c2⟩ := HBK.out w6 HB6.out.1
      rw [HTA.out] at c0
      by_cases hk0 : k = 0
      · have hk1 : ¬ (0 : Int) < (k : Int) := by omega
        go_upto_region 9 with fail
        go_quiet (fail)
        go_wp2_with fail
        go_roundw
        case rel => exact ⟨k + 1, by go_num, by omega, below_drewN HB6.out.1 _⟩
        case measure => simp [intOf]; omega
      · obtain ⟨j, rfl⟩ : ∃ j, k = j + 1 := ⟨k - 1, by omega⟩
        have hjt : j < s.tabs.length := by omega
        obtain ⟨tb', toff', e, -, q0, -, -⟩ := (HSC.out.on HB6.out.2).tabs.tbl hjt
        rw [HTA.out] at e
        injection e with e
        injection e with e1 e2
        subst e1 e2
        have hless := HR.out.less j hkt
        have hk1 : (0 : Int) < ((j + 1 : Nat) : Int) := by omega
        have hj2 : ((j + 1 : Nat) : Int) - 1 = (j : Int) := by omega
        have hjn : (j : Int) < (n : Int) := by omega
        generalize s.tabs[j].name = nmj at *
        generalize s.tabs[j + 1].name = nmk at *
        go_upto_region 9 with fail
        go_quiet (fail)
        go_wp2_with fail
        go_roundw
        case rel => exact ⟨j + 1 + 1, by go_num, by omega, below_drewN HB6.out.1 _⟩
        case measure => simp [intOf]; omega
    · have hkn' : k = n := by omega
      subst hkn'
      have hbw2 := hbw
      clear c0 c1 c2
      obtain ⟨c0, c1, c2⟩ := HBK.out wo hb
      obtain ⟨w3, hw3⟩ : ∃ w3, w3 = wo.alloc (.map #[] 0) := ⟨_, rfl⟩
      have hb3 : Below wo.heap.size wo w3 := by rw [hw3]; exact (Below.refl _ _).alloc (Nat.le_refl _) _
      have HM0 : Hid (SMap w3 wo.heap.size []) := Lib.hid (by rw [hw3]; exact SMap.made wo)
      have HW3 := Lib.hid hw3
      have HB3 := Lib.hid (And.intro (hb.trans (hb3.mono hb.size)) (hbw.trans (hb3.mono hbw.size)))
      have HMB : Hid (w1.heap.size ≤ wo.heap.size) := Lib.hid hb.size
      clear hw3 hb3 hb hbw hbw2
      go_upto_region 13 with fail
      rw [← HW3.out]
      obtain ⟨mb, hmb⟩ : ∃ mb, mb = wo.heap.size := ⟨_, rfl⟩
      rw [← hmb] at HM0 HMB ⊢
      clear hmb c0 c1 c2 hmm
      obtain ⟨c0, c1, c2⟩ := HBK.out w3 HB3.out.1
      go_wp2_with fail
      go_loopw [64] (fun vi wr => (vi = .int .i64 0 ∧ w3 = wr) ∨ (vi = .int .i64 1 ∧ Below w1.heap.size w1 wr)) (fun vi _ => 1 - (intOf vi).toNat)
      case atStart => exact .inl ⟨rfl, rfl⟩
      case round =>
        rcases hrel with ⟨rfl, rfl⟩ | ⟨rfl, hcut⟩
        · have hft : 0 < s.fks.length := by have := HN.out.2.1; omega
          obtain ⟨fb, fo, hFA, -, p0, p1, p2⟩ := (HSC.out.on HB3.out.2).fks.fkm hft
          rw [Nat.zero_mul, Nat.add_zero] at p0 p1 p2
          obtain ⟨w5, hw5⟩ : ∃ w5, w5 = w3.alloc (.cells #[.string s.fks[0].name, .slice s.fks[0].A s.fks[0].cols.length s.fks[0].c, .string s.fks[0].ref] 73) := ⟨_, rfl⟩
          have hb5 : Below w3.heap.size w3 w5 := by rw [hw5]; exact (Below.refl _ _).alloc (Nat.le_refl _) _
          have hg5 : w5.heap[w3.heap.size]? = some (.cells #[.string s.fks[0].name, .slice s.fks[0].A s.fks[0].cols.length s.fks[0].c, .string s.fks[0].ref] 73 (0, 0)) := by rw [hw5]; exact heap_alloc_new w3 _
          have hs5 : w3.heap.size < w5.heap.size := by rw [hw5]; simp
          have HFB : Hid (∀ W, Below w5.heap.size w5 W → W.cell? ⟨w3.heap.size, 0, none⟩ = some (.string s.fks[0].name) ∧ W.cell? ⟨w3.heap.size, 1, none⟩ = some (.slice s.fks[0].A s.fks[0].cols.length s.fks[0].c) ∧ W.cell? ⟨w3.heap.size, 2, none⟩ = some (.string s.fks[0].ref)) := Lib.hid fun W hW => by
            have h := (hW.block w3.heap.size hs5).trans hg5
            exact ⟨cell_of_row _ _ 0 _ _ _ h, cell_of_row _ _ 1 _ _ _ h, cell_of_row _ _ 2 _ _ _ h⟩
          have HB5 := Lib.hid (And.intro (HB3.out.1.trans (hb5.mono HB3.out.1.size)) (HB3.out.2.trans (hb5.mono HB3.out.2.size)))
          have HM5 := Lib.hid (HM0.out.below hb5)
          have HV5 := Lib.hid (HFV.out w5 HB5.out.2 _ (List.getElem_mem hft))
          have HI5 := Lib.hid fun W (hW : Below w.heap.size w W) => HFI.out W hW _ (List.getElem_mem hft)
          unfold FkM.val at HV5 HI5
          have HW5 := Lib.hid hw5
          obtain ⟨y0, y1, y2⟩ := HFB.out w5 (Below.refl _ _)
          have d0 := (HBK.out w5 HB5.out.1).1
          have d1 := (HBK.out w5 HB5.out.1).2.1
          have d2 := (HBK.out w5 HB5.out.1).2.2
          rw [hFA] at c1 d1 ⊢
          rw [hFA] at HV5
          have HFAH := Lib.hid hFA
          clear hw5 hb5 hg5 hs5 hFA
          go_upto_region 16 with fail
          rw [← HW5.out]
          go_wp2_with fail
          refine HV5.out.mono ?_
          rintro e w6 ⟨rfl, hb6⟩
          have HB6 := Lib.hid (And.intro (HB5.out.1.trans (hb6.mono HB5.out.1.size)) (HB5.out.2.trans (hb6.mono HB5.out.2.size)))
          have HM6 := Lib.hid (HM5.out.below hb6)
          clear y0 y1 y2 d0 d1 d2 c0 c1 c2 p0 p1 p2
          obtain ⟨y0, y1, y2⟩ := HFB.out w6 hb6
          clear hb6
          go_wp2_with fail
          refine (HI5.out w6 HB6.out.2).mono ?_
          rintro e w7 ⟨⟨t, rfl⟩, hb7⟩
          have HB7 := Lib.hid (HB6.out.1.trans (hb7.mono HB6.out.1.size))
          have hm7 := HM6.out.below hb7
          have hlk := hm7.look Tryz.underlying115 Tryz.underlying9 (zero_int w7) t
          replace hlk : (Instr.lookup 115 (.map (some mb)) (.string t) false).run Tryz.prog w7 = .ok (.int .i64 0) w7 := hlk
          obtain ⟨w8, hup, hm8, hgr⟩ := hm7.update Tryz.underlying115 Tryz.underlying9 t (.int .i64 1)
          have hl8 := hm8.look Tryz.underlying115 Tryz.underlying9 (zero_int w8) t
          rw [mget_put_same] at hl8
          replace hl8 : (Instr.lookup 115 (.map (some mb)) (.string t) false).run Tryz.prog w8 = .ok (.int .i64 1) w8 := hl8
          have HB8 := Lib.hid (HB7.out.trans (hm7.grown hgr HMB.out))
          clear hb7 hm7 hm8 hgr y0 y1 y2
          go_wp2_with fail
          go_roundw
          case rel => exact .inr ⟨by go_num, HB8.out⟩
          case measure => simp [intOf]
        · obtain ⟨w4, rfl⟩ : ∃ w4, w4 = wr := ⟨_, rfl⟩
          have HB4 := Lib.hid (And.intro hcut (HB1.out.trans (hcut.mono HB1.out.size)))
          clear hcut c0 c1 c2
          obtain ⟨c0, c1, c2⟩ := HBK.out w4 HB4.out.1
          go_wp2_with fail
          go_loopw [88] (fun vi wr => (vi = .int .i64 0 ∧ w4 = wr) ∨ (vi = .int .i64 1 ∧ n3 = 1 ∧ Below w1.heap.size w1 wr)) (fun vi _ => 1 - (intOf vi).toNat)
          case atStart => exact .inl ⟨rfl, rfl⟩
          case round =>
            rcases hrel with ⟨rfl, rfl⟩ | ⟨rfl, hn3', hb⟩
            · by_cases h0 : n3 = 0
              · subst h0
                go_wp2_with fail
                go_ret
                exact ⟨rfl, HB4.out.2⟩
              · have h1 : n3 = 1 := by omega
                have H1 := Lib.hid h1
                have h1' : (0 : Int) < (n3 : Int) := by omega
                have hct : 0 < s.cns.length := by have := HN.out.2.2; omega
                clear h1 h0
                obtain ⟨fb, fo, hFA, -, p0, p1, p2, p3, p4, p5, p6⟩ := (HSC.out.on HB4.out.2).cns.cn hct
                rw [Nat.zero_mul, Nat.add_zero] at p0 p1 p2 p3 p4 p5 p6
                obtain ⟨w5, hw5⟩ : ∃ w5, w5 = w4.alloc (.cells s.cns[0].cells 62) := ⟨_, rfl⟩
                have hb5 : Below w4.heap.size w4 w5 := by rw [hw5]; exact (Below.refl _ _).alloc (Nat.le_refl _) _
                have hg5 : w5.heap[w4.heap.size]? = some (.cells s.cns[0].cells 62 (0, 0)) := by rw [hw5]; exact heap_alloc_new w4 _
                unfold Cn.cells at hg5
                have y0 := cell_of_row _ _ 0 _ _ _ hg5
                have y1 := cell_of_row _ _ 1 _ _ _ hg5
                have y2 := cell_of_row _ _ 2 _ _ _ hg5
                have y3 := cell_of_row _ _ 3 _ _ _ hg5
                have y4 := cell_of_row _ _ 4 _ _ _ hg5
                have y5 := cell_of_row _ _ 5 _ _ _ hg5
                have y6 := cell_of_row _ _ 6 _ _ _ hg5
                have HB5 := Lib.hid (And.intro (HB4.out.1.trans (hb5.mono HB4.out.1.size)) (HB4.out.2.trans (hb5.mono HB4.out.2.size)))
                have HV5 := Lib.hid (HCV.out w5 HB5.out.2 _ (List.getElem_mem hct))
                unfold Cn.cells at HV5
                have HW5 := Lib.hid hw5
                unfold Cn.cells at HW5
                obtain ⟨d0, d1, d2⟩ := HBK.out w5 HB5.out.1
                rw [hFA] at c2 d2 ⊢
                rw [hFA] at HV5
                have HFAH := Lib.hid hFA
                clear hw5 hb5 hg5 hFA
                go_upto_region 27 with fail
                rw [← HW5.out]
                go_wp2_with fail
                refine HV5.out.mono ?_
                rintro e w6 ⟨rfl, hb6⟩
                have HB6 := Lib.hid (HB5.out.1.trans (hb6.mono HB5.out.1.size))
                clear y0 y1 y2 y3 y4 y5 y6 d0 d1 d2 c0 c1 c2 p0 p1 p2 p3 p4 p5 p6 hb6
                obtain ⟨c0, c1, c2⟩ := HBK.out w6 HB6.out
                rw [HFAH.out] at c2
                go_wp2_with fail
                go_loopw [104] (fun vi wr => vi = .int .i64 0 ∧ w6 = wr) (fun _ _ => 0)
                case atStart => exact ⟨rfl, rfl⟩
                case round =>
                  obtain ⟨rfl, rfl⟩ := hrel
                  go_wp2_with fail
                  go_roundw
                  case rel => exact .inr ⟨by go_num, H1.out, HB6.out⟩
                  case measure => simp [intOf]
            · subst hn3'
              have HF := Lib.hid (HB1.out.trans (hb.mono HB1.out.size))
              clear hb
              go_wp2_with fail
              go_ret
              exact ⟨rfl, HF.out⟩
end Go.Proofs.YtefifkleamiabaaGreatDoor

namespace Go.Proofs.YtefifkleamiabaaGreatDoor
open Go.RowKit Go.Sort

theorem cmpR_ik (x y : Int) : cmpR (ik x) (ik y) = c1 x y := by
  unfold ik c1
  rw [cmpR_cons]
  by_cases h : x < y
  · rw [if_pos h]
    simp [cmpV, cmpI]
    omega
  · rw [if_neg h]
    by_cases h2 : y < x
    · rw [if_pos h2]
      simp [cmpV, cmpI]
      omega
    · rw [if_neg h2]
      have : x = y := by omega
      subst this
      have h := cmpR_eq0 (ik x)
      unfold ik at h
      rw [cmpR_cons] at h
      exact h
/-- Every key is one integer. -/
def IntK (t : Tbl) (rows : List Row) : Prop := ∀ r ∈ rows, ∃ x, keyOf t.pk r = ik x
/-- The key before the m-th row. -/
def PrevOk (t : Tbl) (ks : List Key) (m : Nat) (v : Value) (W : World) : Prop :=
  m = 0 ∨ ∃ pA pc x, (∃ h : m - 1 < ks.length, keyOf t.pk ks[m - 1].row = ik x) ∧ v = .slice pA 1 pc ∧ Elems 3 Val.cs W (· < W.heap.size) pA (ik x)

set_option maxRecDepth 100000 in
set_option maxHeartbeats 8000000 in
theorem rConforms (s : Sc) (A : Option Addr) (c : Nat) (rs : List RelM) (w : World) (hs : ScOk (· < w.heap.size) w s) (hi : InOk (· < w.heap.size) w A rs) (hc : InC s.tabs rs) (hk : ∀ (i : Nat) (h : i < rs.length) (h' : i < s.tabs.length), IntK s.tabs[i] (rs[i].rows.map Key.row)) :
    Calls Tryz.prog 28 #[s.v, .slice A rs.length c] w fun e w' => e = .returned (.int .i64 0) ∧ Below w.heap.size w w' := by
  obtain ⟨n, hn⟩ : ∃ n, s.tabs.length = n := ⟨_, rfl⟩
  have hrn : rs.length = n := hc.len.trans hn
  have hn6 : n ≤ 6 := by rw [← hn]; exact hc.max
  obtain ⟨w1, hw1⟩ : ∃ w1, w1 = w.alloc (.cells #[.slice s.TA n s.tc, .slice s.FA s.fks.length s.fc, .slice s.NA s.cns.length s.nc] 27) := ⟨_, rfl⟩
  have hb1 : Below w.heap.size w w1 := by rw [hw1]; exact (Below.refl _ _).alloc (Nat.le_refl _) _
  have hg1 : w1.heap[w.heap.size]? = some (.cells #[.slice s.TA n s.tc, .slice s.FA s.fks.length s.fc, .slice s.NA s.cns.length s.nc] 27 (0, 0)) := by rw [hw1]; exact heap_alloc_new w _
  have c0 := cell_of_row _ _ 0 _ _ _ hg1
  have HSC := Lib.hid hs
  have HI := Lib.hid hi
  have HC := Lib.hid hc
  have HK := Lib.hid hk
  have HN := Lib.hid (And.intro hn hrn)
  have HB1 := Lib.hid hb1
  have HW1 := Lib.hid hw1
  unfold Sc.v Sc.cells
  rw [hn, hrn]
  clear hs hi hc hk hn hrn hw1 hb1 hg1
  go_enter Tryz.func28, Tryz.ntmps28
  go_upto_region 1 with fail
  rw [← HW1.out]
  go_wp2_with fail
  go_loopw [21] (fun vi wr => ∃ k : Nat, vi = .int .i64 (k : Int) ∧ k ≤ n ∧ Below w1.heap.size w1 wr) (fun vi _ => n - (intOf vi).toNat)
  case atStart => exact ⟨0, rfl, by omega, Below.refl _ _⟩
  case round =>
    obtain ⟨k, rfl, hkn, hb⟩ := hrel
    obtain ⟨wo, rfl⟩ : ∃ wo, wo = wr := ⟨_, rfl⟩
    have hbw := HB1.out.trans (hb.mono HB1.out.size)
    by_cases hlt : k < n
    · have hkt : k < s.tabs.length := by have := HN.out.1; omega
      have hkr : k < rs.length := by have := HN.out.2; omega
      obtain ⟨tb, toff, hTA, -, p0, p1, p2⟩ := (HSC.out.on hbw).tabs.tbl hkt
      have hrel := HC.out.rel k hkr hkt
      have hnm := HC.out.name k hkr hkt
      obtain ⟨w5, hw5⟩ : ∃ w5, w5 = wo.alloc (.cells #[.string s.tabs[k].name, .slice s.tabs[k].CA s.tabs[k].cols.length s.tabs[k].cc, .slice s.tabs[k].PA s.tabs[k].pk.length s.tabs[k].pc] 71) := ⟨_, rfl⟩
      have hb5 : Below wo.heap.size wo w5 := by rw [hw5]; exact (Below.refl _ _).alloc (Nat.le_refl _) _
      have hg5 : w5.heap[wo.heap.size]? = some (.cells #[.string s.tabs[k].name, .slice s.tabs[k].CA s.tabs[k].cols.length s.tabs[k].cc, .slice s.tabs[k].PA s.tabs[k].pk.length s.tabs[k].pc] 71 (0, 0)) := by rw [hw5]; exact heap_alloc_new wo _
      have hs5 : wo.heap.size < w5.heap.size := by rw [hw5]; simp
      have HTB : Hid (∀ W, Below w5.heap.size w5 W → W.cell? ⟨wo.heap.size, 0, none⟩ = some (.string s.tabs[k].name) ∧ W.cell? ⟨wo.heap.size, 1, none⟩ = some (.slice s.tabs[k].CA s.tabs[k].cols.length s.tabs[k].cc) ∧ W.cell? ⟨wo.heap.size, 2, none⟩ = some (.slice s.tabs[k].PA s.tabs[k].pk.length s.tabs[k].pc)) := Lib.hid fun W hW => by
        have h := (hW.block wo.heap.size hs5).trans hg5
        exact ⟨cell_of_row _ _ 0 _ _ _ h, cell_of_row _ _ 1 _ _ _ h, cell_of_row _ _ 2 _ _ _ h⟩
      have HB5 := Lib.hid (And.intro (hb.trans (hb5.mono hb.size)) (hbw.trans (hb5.mono hbw.size)))
      obtain ⟨bi, oi, hIA, -, z0, z1⟩ := (HI.out.on HB5.out.2).el.rel hkr
      rw [hnm] at z0
      obtain ⟨R, hR⟩ : ∃ R, rs[k].rows.length = R := ⟨_, rfl⟩
      have hR24 : R ≤ 24 := by rw [← hR]; exact hrel.len
      have hR24' : ¬ (24 : Int) < (R : Int) := by omega
      rw [hR] at z1
      have HROW := Lib.hid fun W (hW : Below w.heap.size w W) => (HI.out.on hW).rel _ (List.getElem_mem hkr)
      have HTK := Lib.hid fun W (hW : Below w.heap.size w W) => (HSC.out.on hW).tab _ (List.getElem_mem hkt)
      have HT6 := Lib.hid (HC.out.tab _ (List.getElem_mem hkt))
      have HKK := Lib.hid (HK.out k hkr hkt)
      have HREL := Lib.hid hrel
      have HR := Lib.hid hR
      have HTA := Lib.hid hTA
      have HW5 := Lib.hid hw5
      obtain ⟨y0, y1, y2⟩ := HTB.out w5 (Below.refl _ _)
      have hlt' : (k : Int) < (n : Int) := by omega
      rw [hTA, hIA]
      clear hb hbw hw5 hb5 hg5 hs5 hrel hnm hR hTA hIA
      generalize s.tabs[k] = t at *
      generalize rs[k] = r at *
      go_upto_region 6 with fail
      rw [← HW5.out]
      go_quiet (fail)
      obtain ⟨w6, hw6⟩ : ∃ w6, w6 = w5.drewN nq := ⟨_, rfl⟩
      have hb6 : Below w5.heap.size w5 w6 := by rw [hw6]; exact below_drewN (Below.refl _ _) _
      rw [← hw6]
      have HB6 := Lib.hid (And.intro (HB5.out.1.trans (hb6.mono HB5.out.1.size)) (HB5.out.2.trans (hb6.mono HB5.out.2.size)))
      have z1' := (hb6.cell (p := ⟨bi, oi + k * 2 + 1, none⟩) (World.block_lt_of_cell? w5 ⟨bi, oi + k * 2 + 1, none⟩ z1)).trans z1
      clear y0 y1 y2 z0 z1 p0 p1 p2 c0 hw6
      obtain ⟨y0, y1, y2⟩ := HTB.out w6 hb6
      have HB56 := Lib.hid hb6
      clear hb6
      go_wp2_with fail
      go_loopw [7, 47] (fun v7 vi wr => ∃ m : Nat, vi = .int .i64 (m : Int) ∧ m ≤ R ∧ Below w6.heap.size w6 wr ∧ PrevOk t r.rows m v7 wr) (fun _ vi _ => R - (intOf vi).toNat)
      case atStart => exact ⟨0, rfl, by omega, Below.refl _ _, .inl rfl⟩
      case round =>
        obtain ⟨m, rfl, hmR, hbm, hprev⟩ := hrel
        obtain ⟨wq, rfl⟩ : ∃ wq, wq = wr := ⟨_, rfl⟩
        obtain ⟨v7, rfl⟩ : ∃ v7, v7 = u7 := ⟨_, rfl⟩
        have hbq := HB6.out.2.trans (hbm.mono HB6.out.2.size)
        by_cases hltm : m < R
        · have hmr : m < r.rows.length := by have := HR.out; omega
          obtain ⟨b3, o3, hA3, -, q0⟩ := (HROW.out wq hbq).el.key hmr
          have hq := (HROW.out wq hbq).row _ (List.getElem_mem hmr)
          obtain ⟨x, hx⟩ := HKK.out _ (List.mem_map_of_mem (List.getElem_mem hmr))
          have hx : keyOf t.pk r.rows[m].row = ik x := hx
          have HCR := Lib.hid (rConformsRow t r.rows[m].A r.rows[m].c r.rows[m].row wq (HTK.out wq hbq) hq.el (by have := HT6.out.1; omega) (HREL.out.row _ (List.getElem_mem hmr)))
          have HKY : Hid (∀ W, Below wq.heap.size wq W → Calls Tryz.prog 25 #[t.val, .slice r.rows[m].A r.rows[m].row.length r.rows[m].c] W fun e w' => ∃ kA kc, e = .returned (.slice kA 1 kc) ∧ Elems 3 Val.cs w' (· < w'.heap.size) kA (ik x) ∧ Below W.heap.size W w') := Lib.hid fun W hW => by
            have hbW := hbq.trans (hW.mono hbq.size)
            refine (keyOfB t r.rows[m].A r.rows[m].c r.rows[m].row W (HTK.out W hbW) ((HROW.out W hbW).row _ (List.getElem_mem hmr)).el (by have := HT6.out.2; omega)).mono ?_
            rintro e w' ⟨v, rfl, ho, hb⟩
            rw [hx] at ho
            obtain ⟨kA, kc, rfl, -, -⟩ := ho.form
            exact ⟨kA, kc, rfl, (ho.elems valLay.len rfl).more fun g hg => (Own.lt ho g hg).2, hb⟩
          have HCMP : Hid (∀ j pA pc x', m = j + 1 → (∃ h : m - 1 < r.rows.length, keyOf t.pk r.rows[m - 1].row = ik x') → ∀ W kA kc, Elems 3 Val.cs W (· < W.heap.size) pA (ik x') → Elems 3 Val.cs W (· < W.heap.size) kA (ik x) → Calls Tryz.prog 58 #[.slice pA 1 pc, .slice kA 1 kc] W fun e w' => e = .returned (.int .i64 (-1)) ∧ Below W.heap.size W w') := Lib.hid fun j pA pc x' hj hx' W kA kc h1 h2 => by
            refine (rCmp1 pA kA pc kc x' x W h1 h2).mono ?_
            rintro e w' ⟨rfl, hb⟩
            obtain ⟨hm1, hx'⟩ := hx'
            have hord := List.pairwise_iff_getElem.1 HREL.out.ord (m - 1) m (by rw [List.length_map]; omega) (by rw [List.length_map]; omega) (by omega)
            rw [List.getElem_map, List.getElem_map, hx', hx, cmpR_ik] at hord
            have hc1 : c1 x' x = -1 := by unfold c1 at hord ⊢; split at hord <;> rename_i h; exact if_pos h; split at hord <;> omega
            rw [hc1]
            exact ⟨rfl, hb⟩
          have HX := Lib.hid hx
          have HBM := Lib.hid (And.intro hbm hbq)
          have HPV := Lib.hid hprev
          have hlt2 : (m : Int) < (R : Int) := by omega
          unfold Tbl.val at HCR HKY
          have HMR := Lib.hid hmr
          obtain ⟨e0, e1, e2⟩ := HTB.out wq (HB56.out.trans (hbm.mono HB56.out.size))
          rw [hA3]
          clear hbm hbq hprev hq hx hA3 y0 y1 y2
          go_wp2_with fail
          refine HCR.out.mono ?_
          rintro e w8 ⟨rfl, hb8⟩
          clear e0 e1 e2
          obtain ⟨e0, e1, e2⟩ := HTB.out w8 (HB56.out.trans ((HBM.out.1.trans (hb8.mono HBM.out.1.size)).mono HB56.out.size))
          have HB8 := Lib.hid hb8
          clear hb8
          go_wp2_with fail
          refine (HKY.out w8 HB8.out).mono ?_
          rintro e w9 ⟨kA, kc, rfl, hel, hb9⟩
          have HB9 := Lib.hid (And.intro hb9 (HB8.out.trans (hb9.mono HB8.out.size)))
          have HEL := Lib.hid hel
          clear hb9 hel e0 e1 e2
          by_cases hm0 : m = 0
          · subst hm0
            have HPN : Hid (PrevOk t r.rows (0 + 1) (.slice kA 1 kc) w9) := Lib.hid (.inr ⟨kA, kc, x, ⟨HMR.out, HX.out⟩, rfl, HEL.out⟩)
            have HFB := Lib.hid (HBM.out.1.trans (HB9.out.2.mono HBM.out.1.size))
            go_wp2_with fail
            go_roundw
            case rel => exact ⟨0 + 1, by go_num, by omega, HFB.out, HPN.out⟩
            case measure => simp [intOf]; omega
          · obtain ⟨j, rfl⟩ : ∃ j, m = j + 1 := ⟨m - 1, by omega⟩
            rcases HPV.out with h | ⟨pA, pc, x', hx', rfl, hpe⟩
            · cases h
            · have hpe9 := hpe.on HB9.out.2
              have HC2 := Lib.hid (HCMP.out j pA pc x' rfl hx' w9 kA kc hpe9 HEL.out)
              have hj0 : (0 : Int) < ((j + 1 : Nat) : Int) := by omega
              clear hx' hpe hpe9
              go_wp2_with fail
              refine HC2.out.mono ?_
              rintro e w10 ⟨rfl, hb10⟩
              have HPN : Hid (PrevOk t r.rows (j + 1 + 1) (.slice kA 1 kc) w10) := Lib.hid (.inr ⟨kA, kc, x, ⟨HMR.out, HX.out⟩, rfl, HEL.out.on hb10⟩)
              have HFB := Lib.hid (HBM.out.1.trans ((HB9.out.2.trans (hb10.mono HB9.out.2.size)).mono HBM.out.1.size))
              clear hb10
              go_wp2_with fail
              go_roundw
              case rel => exact ⟨j + 1 + 1, by go_num, by omega, HFB.out, HPN.out⟩
              case measure => simp [intOf]; omega
        · have hmR' : m = R := by omega
          subst hmR'
          have HF := Lib.hid (HB6.out.1.trans (hbm.mono HB6.out.1.size))
          clear hbm hbq hprev
          go_wp2_with fail
          go_roundw
          case rel => exact ⟨k + 1, by go_num, by omega, HF.out⟩
          case measure => simp [intOf]; omega
    · have hkn' : k = n := by omega
      subst hkn'
      have HF := Lib.hid hbw
      clear hb hbw
      go_wp2_with fail
      go_ret
      exact ⟨rfl, HF.out⟩
end Go.Proofs.YtefifkleamiabaaGreatDoor

namespace Go.Proofs.YtefifkleamiabaaGreatDoor
open Go.RowKit Go.Sort

/-- The two boxes of a schema and a change. -/
theorem scBox (s : Sc) (ch : ChM) (w : World) : ∃ w1, w1 = (w.alloc (.cells s.cells 27)).alloc (.cells ch.cells 51) ∧ Below w.heap.size w w1 ∧ w1.heap.size = w.heap.size + 2
    ∧ ∀ W, Below w1.heap.size w1 W → (W.cell? ⟨w.heap.size, 0, none⟩ = some (.slice s.TA s.tabs.length s.tc) ∧ W.cell? ⟨w.heap.size, 1, none⟩ = some (.slice s.FA s.fks.length s.fc) ∧ W.cell? ⟨w.heap.size, 2, none⟩ = some (.slice s.NA s.cns.length s.nc)) ∧ (W.cell? ⟨w.heap.size + 1, 0, none⟩ = some (.int .i64 ch.kind) ∧ W.cell? ⟨w.heap.size + 1, 1, none⟩ = some (.string ch.name) ∧ W.cell? ⟨w.heap.size + 1, 2, none⟩ = some (.slice ch.key.A ch.key.row.length ch.key.c) ∧ W.cell? ⟨w.heap.size + 1, 3, none⟩ = some (.slice ch.row.A ch.row.row.length ch.row.c)) := by
  obtain ⟨w1, hw1⟩ : ∃ w1, w1 = (w.alloc (.cells s.cells 27)).alloc (.cells ch.cells 51) := ⟨_, rfl⟩
  have g0 : w1.heap[w.heap.size]? = some (.cells s.cells 27 (0, 0)) := by
    rw [hw1, Below.heap_alloc _ _ _ (by simp)]
    exact heap_alloc_new w _
  have g1 : w1.heap[w.heap.size + 1]? = some (.cells ch.cells 51 (0, 0)) := by rw [hw1]; exact alloc2_at w _ _
  have hs1 : w1.heap.size = w.heap.size + 2 := by rw [hw1]; simp
  refine ⟨w1, hw1, by rw [hw1]; exact ((Below.refl _ _).alloc (Nat.le_refl _) _).alloc (le_size1 (Nat.le_refl _) _) _, hs1, fun W hW => ?_⟩
  have e0 := (hW.block w.heap.size (by omega)).trans g0
  have e1 := (hW.block (w.heap.size + 1) (by omega)).trans g1
  unfold Sc.cells at e0
  unfold ChM.cells at e1
  exact ⟨⟨cell_of_row _ _ 0 _ _ _ e0, cell_of_row _ _ 1 _ _ _ e0, cell_of_row _ _ 2 _ _ _ e0⟩, cell_of_row _ _ 0 _ _ _ e1, cell_of_row _ _ 1 _ _ _ e1, cell_of_row _ _ 2 _ _ _ e1, cell_of_row _ _ 3 _ _ _ e1⟩

set_option maxRecDepth 100000 in
set_option maxHeartbeats 8000000 in
theorem rValidateCh1 (s : Sc) (ch : ChM) (i : Nat) (w : World) (hs : ScOk (· < w.heap.size) w s) (ho : ChOk (· < w.heap.size) w ch) (hc : ChC s ch i) (hk : ch.kind = 1) (hl : s.tabs.length ≤ 1000) :
    Calls Tryz.prog 29 #[s.v, .agg ch.cells] w fun e w' => e = .returned (.int .i64 0) ∧ Below w.heap.size w w' := by
  have hil := hc.il
  obtain ⟨hk0, hrc⟩ : ch.key.row.length = 0 ∧ RowC s.tabs[i].cols ch.row.row := by
    rcases hc.fit with ⟨h1, h2, h3⟩ | ⟨h1, h2, h3⟩
    · exact ⟨h2, h3⟩
    · rw [hk] at h1; cases h1
  obtain ⟨tb, toff, hTA, -, -⟩ := hs.tabs.tbl (k := 0) (by omega)
  obtain ⟨w1, hw1, hb1, hs1, hbk⟩ := scBox s ch w
  have HBK := Lib.hid hbk
  have HF1 := Lib.hid fun W (hW : Below w.heap.size w W) => rFindTable s ch.name i W (hs.on hW) hl hil hc.fi tb toff hTA
  have HTK : Hid (∀ W, Below w.heap.size w W → W.cell? ⟨tb, toff + i * 3, none⟩ = some (.string s.tabs[i].name) ∧ W.cell? ⟨tb, toff + i * 3 + 1, none⟩ = some (.slice s.tabs[i].CA s.tabs[i].cols.length s.tabs[i].cc) ∧ W.cell? ⟨tb, toff + i * 3 + 2, none⟩ = some (.slice s.tabs[i].PA s.tabs[i].pk.length s.tabs[i].pc)) := Lib.hid fun W hW => by
    obtain ⟨tb1, to1, e1, -, p0, p1, p2⟩ := (hs.on hW).tabs.tbl hil
    rw [hTA] at e1
    injection e1 with e1
    injection e1 with e11 e12
    subst e11 e12
    exact ⟨p0, p1, p2⟩
  have HCR : Hid (∀ W m, Below w.heap.size w W → Calls Tryz.prog 57 #[s.tabs[i].val, .slice ch.row.A ch.row.row.length ch.row.c] (W.drewN m) fun e w' => e = .returned (.int .i64 0) ∧ Below W.heap.size W w') := Lib.hid fun W m hW => by
    have hd : Below W.heap.size W (W.drewN m) := below_drewN (Below.refl _ _) m
    have h0 := hW.trans (hd.mono hW.size)
    exact (rConformsRow _ ch.row.A ch.row.c ch.row.row (W.drewN m) ((hs.on h0).tab _ (List.getElem_mem hil)) (ho.row.on h0).el hc.tab.1 hrc).mono fun e w' h => ⟨h.1, hd.trans h.2⟩
  have HB1 := Lib.hid hb1
  have HW1 := Lib.hid hw1
  obtain ⟨⟨s0, s1, s2⟩, k0, k1, k2, k3⟩ := HBK.out w1 (Below.refl _ _)
  unfold Sc.cells ChM.cells at HW1
  unfold Sc.v Sc.cells at HF1 ⊢
  unfold Tbl.val at HCR
  unfold ChM.cells
  rw [hk, hk0] at HW1 ⊢
  rw [hk] at HBK k0
  rw [hk0] at HBK k2
  clear hs ho hc hk hk0 hrc hTA hw1 hb1 hs1 hbk hl
  go_enter Tryz.func29, Tryz.ntmps29
  go_upto_region 1 with fail
  rw [← HW1.out]
  go_wp2_with fail
  refine (HF1.out w1 HB1.out).mono ?_
  rintro e w2 ⟨rfl, hb2⟩
  have HB2 := Lib.hid (And.intro hb2 (HB1.out.trans (hb2.mono HB1.out.size)))
  clear hb2 s0 s1 s2 k0 k1 k2 k3
  obtain ⟨⟨s0, s1, s2⟩, k0, k1, k2, k3⟩ := HBK.out w2 HB2.out.1
  obtain ⟨t0, t1, t2⟩ := HTK.out w2 HB2.out.2
  go_upto_region 7 with fail
  go_region_held3 (fun W => W.cell? ⟨tb, toff + i * 3, none⟩ = some (.string s.tabs[i].name) ∧ W.cell? ⟨tb, toff + i * 3 + 1, none⟩ = some (.slice s.tabs[i].CA s.tabs[i].cols.length s.tabs[i].cc) ∧ W.cell? ⟨tb, toff + i * 3 + 2, none⟩ = some (.slice s.tabs[i].PA s.tabs[i].pk.length s.tabs[i].pc) ∧ W.cell? ⟨w.heap.size + 1, 3, none⟩ = some (.slice ch.row.A ch.row.row.length ch.row.c)) (first | exact ⟨t0, t1, t2, k3⟩ | exact s9)
    (first
    | (go_at_call 57; refine (HCR.out w2 1 HB2.out.2).mono ?_; rintro e w3 ⟨rfl, hb3⟩; have s9 := And.intro (HTK.out w3 (HB2.out.2.trans (hb3.mono HB2.out.2.size))).1 (And.intro (HTK.out w3 (HB2.out.2.trans (hb3.mono HB2.out.2.size))).2.1 (And.intro (HTK.out w3 (HB2.out.2.trans (hb3.mono HB2.out.2.size))).2.2 (HBK.out w3 (HB2.out.1.trans (hb3.mono HB2.out.1.size))).2.2.2.2))))
  all_goals
    have HF := Lib.hid (HB2.out.2.trans (hb3.mono HB2.out.2.size))
    clear hb3 s9
    go_wp2_with fail
    go_ret
    exact ⟨rfl, HF.out⟩

set_option maxRecDepth 100000 in
set_option maxHeartbeats 8000000 in
theorem rValidateCh2 (s : Sc) (ch : ChM) (i : Nat) (w : World) (hs : ScOk (· < w.heap.size) w s) (ho : ChOk (· < w.heap.size) w ch) (hc : ChC s ch i) (hk : ch.kind = 2) (hl : s.tabs.length ≤ 1000) :
    Calls Tryz.prog 29 #[s.v, .agg ch.cells] w fun e w' => e = .returned (.int .i64 0) ∧ Below w.heap.size w w' := by
  have hil := hc.il
  obtain ⟨hr0, hkc⟩ : ch.row.row.length = 0 ∧ KeyC s.tabs[i] ch.key.row := by
    rcases hc.fit with ⟨h1, h2, h3⟩ | ⟨h1, h2, h3⟩
    · rw [hk] at h1; cases h1
    · exact ⟨h2, h3⟩
  obtain ⟨tb, toff, hTA, -, -⟩ := hs.tabs.tbl (k := 0) (by omega)
  obtain ⟨w1, hw1, hb1, hs1, hbk⟩ := scBox s ch w
  obtain ⟨n, hn⟩ : ∃ n, ch.key.row.length = n := ⟨_, rfl⟩
  have hpn : s.tabs[i].pk.length = n := hkc.len.symm.trans hn
  have HBK := Lib.hid hbk
  have HF1 := Lib.hid fun W (hW : Below w.heap.size w W) => rFindTable s ch.name i W (hs.on hW) hl hil hc.fi tb toff hTA
  have HTK : Hid (∀ W, Below w.heap.size w W → W.cell? ⟨tb, toff + i * 3 + 1, none⟩ = some (.slice s.tabs[i].CA s.tabs[i].cols.length s.tabs[i].cc) ∧ W.cell? ⟨tb, toff + i * 3 + 2, none⟩ = some (.slice s.tabs[i].PA n s.tabs[i].pc)) := Lib.hid fun W hW => by
    obtain ⟨tb1, to1, e1, -, p0, p1, p2⟩ := (hs.on hW).tabs.tbl hil
    rw [hTA] at e1
    injection e1 with e1
    injection e1 with e11 e12
    subst e11 e12
    rw [hpn] at p2
    exact ⟨p1, p2⟩
  have HTT := Lib.hid fun W (hW : Below w.heap.size w W) => (hs.on hW).tab _ (List.getElem_mem hil)
  have HKO := Lib.hid fun W (hW : Below w.heap.size w W) => (ho.key.on hW).el
  have HKC := Lib.hid hkc
  have HN := Lib.hid (And.intro hn (And.intro hpn trivial))
  have HB1 := Lib.hid hb1
  have HW1 := Lib.hid hw1
  have h12 : n ≤ 12 := by rw [← hpn]; exact hc.tab.2
  obtain ⟨⟨s0, s1, s2⟩, k0, k1, k2, k3⟩ := HBK.out w1 (Below.refl _ _)
  unfold Sc.cells ChM.cells at HW1
  unfold Sc.v Sc.cells at HF1 ⊢
  unfold ChM.cells
  rw [hk, hr0, hn] at HW1 ⊢
  rw [hk] at HBK k0
  rw [hr0, hn] at HBK
  rw [hr0] at k3
  rw [hn] at k2
  clear hs ho hc hk hr0 hkc hTA hw1 hb1 hs1 hbk hn hpn hl
  go_enter Tryz.func29, Tryz.ntmps29
  go_upto_region 1 with fail
  rw [← HW1.out]
  go_wp2_with fail
  refine (HF1.out w1 HB1.out).mono ?_
  rintro e w2 ⟨rfl, hb2⟩
  have HB2 := Lib.hid (And.intro hb2 (HB1.out.trans (hb2.mono HB1.out.size)))
  clear hb2 s0 s1 s2 k0 k1 k2 k3
  obtain ⟨⟨s0, s1, s2⟩, k0, k1, k2, k3⟩ := HBK.out w2 HB2.out.1
  obtain ⟨t1, t2⟩ := HTK.out w2 HB2.out.2
  go_upto_region 8 with fail
  go_quiet (fail)
  go_wp2_with fail
  go_loopw [66] (fun vi wr => ∃ m : Nat, vi = .int .i64 (m : Int) ∧ m ≤ n ∧ Below w2.heap.size w2 wr) (fun vi _ => n - (intOf vi).toNat)
  case atStart => exact ⟨0, rfl, by omega, by first | exact Below.refl _ _ | exact below_drewN (Below.refl _ _) _⟩
  case round =>
    obtain ⟨m, rfl, hmn, hb⟩ := hrel
    obtain ⟨wo, rfl⟩ : ∃ wo, wo = wr := ⟨_, rfl⟩
    have hbo := HB2.out.2.trans (hb.mono HB2.out.2.size)
    by_cases hlt : m < n
    · have hmk : m < ch.key.row.length := by have := HN.out.1; omega
      have hmp : m < s.tabs[i].pk.length := by have := HN.out.2.1; omega
      obtain ⟨hp0, hp1, hkd⟩ := HKC.out.col m hmk hmp
      have her : (ch.key.row[m]).err = 0 := HKC.out.err _ (List.getElem_mem hmk)
      obtain ⟨p, hp⟩ := Int.eq_ofNat_of_zero_le hp0
      rw [hp, Int.toNat_natCast] at hp1 hkd
      have hkd' : ch.key.row[m].kind = s.tabs[i].cols[p].kind := by
        rw [List.getD_eq_getElem?_getD, List.getElem?_eq_getElem hp1] at hkd
        exact hkd
      obtain ⟨bk, ok, hKA, -, q0, q1, q2⟩ := (HKO.out wo hbo).val hmk
      obtain ⟨w5, hw5⟩ : ∃ w5, w5 = wo.alloc (.cells #[.int .i64 ch.key.row[m].kind, .int .i64 ch.key.row[m].int, .string ch.key.row[m].text] 60) := ⟨_, rfl⟩
      have hb5 : Below wo.heap.size wo w5 := by rw [hw5]; exact (Below.refl _ _).alloc (Nat.le_refl _) _
      have hg5 : w5.heap[wo.heap.size]? = some (.cells #[.int .i64 ch.key.row[m].kind, .int .i64 ch.key.row[m].int, .string ch.key.row[m].text] 60 (0, 0)) := by rw [hw5]; exact heap_alloc_new wo _
      have hs5 : wo.heap.size < w5.heap.size := by rw [hw5]; simp
      have HB5 := Lib.hid (hb.trans (hb5.mono hb.size))
      have HV := Lib.hid (rValidate ch.key.row[m] w5 her)
      have HCE : Hid (∀ W, Below w5.heap.size w5 W → W.cell? ⟨wo.heap.size, 0, none⟩ = some (.int .i64 ch.key.row[m].kind)) := Lib.hid fun W hW => by
        have h := (hW.block wo.heap.size hs5).trans hg5
        exact cell_of_row _ _ 0 _ _ _ h
      have y0 := cell_of_row _ _ 0 _ _ _ hg5
      have y1 := cell_of_row _ _ 1 _ _ _ hg5
      have y2 := cell_of_row _ _ 2 _ _ _ hg5
      have HCP : Hid (∀ W, Below w.heap.size w W → ∃ cb co pb po, s.tabs[i].CA = some ⟨cb, co, none⟩ ∧ s.tabs[i].PA = some ⟨pb, po, none⟩ ∧ W.cell? ⟨cb, co + p * 3 + 1, none⟩ = some (.int .i64 ch.key.row[m].kind) ∧ W.cell? ⟨pb, po + m, none⟩ = some (.int .i64 (p : Int))) := Lib.hid fun W hW => by
        obtain ⟨cb, co, e1, -, -, x1, -⟩ := (HTT.out W hW).cols.col hp1
        obtain ⟨pb, po, e2, -, x3⟩ := (HTT.out W hW).pk.int hmp
        rw [hp] at x3
        rw [← hkd'] at x1
        exact ⟨cb, co, pb, po, e1, e2, x1, x3⟩
      have hpc : (p : Int) < (s.tabs[i].cols.length : Int) := by omega
      have hlt' : (m : Int) < (n : Int) := by omega
      have HW5 := Lib.hid hw5
      have z2 := (HBK.out wo (HB2.out.1.trans (hb.mono HB2.out.1.size))).2.2.2.1
      rw [hKA] at z2 ⊢
      clear hb hbo hw5 hb5 hg5 hs5 hKA hp hp0 hkd hkd' her
      generalize ch.key.row[m] = v at *
      go_upto_region 13 with fail
      rw [← HW5.out]
      go_wp2_with fail
      refine HV.out.mono ?_
      rintro e w6 ⟨rfl, hb6⟩
      have HB6 := Lib.hid (HB5.out.trans (hb6.mono HB5.out.size))
      have hbw6 := HB2.out.2.trans (HB6.out.mono HB2.out.2.size)
      clear y0 y1 y2 q0 q1 q2 t1 t2 z2 s0 s1 s2 k0 k1 k2 k3
      have y0 := HCE.out w6 hb6
      obtain ⟨t1, t2⟩ := HTK.out w6 hbw6
      obtain ⟨cb, co, pb, po, e1, e2, x1, x3⟩ := HCP.out w6 hbw6
      rw [e1] at t1
      rw [e2] at t2
      clear hb6 hbw6 e1 e2
      go_wp2_with fail
      go_quiet (fail)
      go_wp2_with fail
      go_roundw
      case rel => exact ⟨m + 1, by go_num, by omega, below_drewN HB6.out _⟩
      case measure => simp [intOf]; omega
    · have hmn' : m = n := by omega
      subst hmn'
      have HE := Lib.hid hbo
      clear hb hbo
      go_wp2_with fail
      go_ret
      exact ⟨rfl, HE.out⟩
end Go.Proofs.YtefifkleamiabaaGreatDoor
