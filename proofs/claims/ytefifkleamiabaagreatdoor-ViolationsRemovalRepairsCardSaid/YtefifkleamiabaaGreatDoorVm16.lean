/-
  The walk of violations.constraints.
  The walks of slices.Grow (from nil) and slices.Concat over violations, of violations.Find.
  The walks of slices.IndexFunc and slices.ContainsFunc over rows, values and violations (printed by wip/gidx2.py).
  The walks of the reference's References$1 and References$2.
  The walk of the reference's References at a foreign key of one column.
-/
import Derived.Test.YtefifkleamiabaaGreatDoorVm15
import Derived.Lib.AppendZeros
namespace Go.Proofs.YtefifkleamiabaaGreatDoor
open Go.RowKit Go.Sort

def Cn.val7 (c : Cn) : Value := .agg c.cells
set_option maxRecDepth 100000 in
set_option maxHeartbeats 8000000 in
theorem constraintsW (s : Sc) (inst : Value) (tt : Nat → Tbl) (Q : Nat → Row → Bool) (rows : Nat → List Row) (w : World) (hs : ScOk (· < w.heap.size) w s)
    (H : VioH w inst s.v s.cns.length (fun i => (s.cns.map Cn.name).getD i ⟨#[]⟩) 87 (fun i v => #[(s.cns.map Cn.val7).getD i undef, v]) tt Q rows) :
    Calls Tryz.prog 47 #[s.v, inst] w fun e w' => ∃ A n c vs, e = .returned (.slice A n c) ∧ VO w.heap.size w w' (.slice A n c) vs (vioD 11 Q rows s.cns.length) := by
  obtain ⟨n, hn⟩ : ∃ n, s.cns.length = n := ⟨_, rfl⟩
  obtain ⟨w1, hw1⟩ : ∃ w1, w1 = w.alloc (.cells s.cells 27) := ⟨_, rfl⟩
  have hb1 : Below w.heap.size w w1 := by rw [hw1]; exact (Below.refl _ _).alloc (Nat.le_refl _) _
  have hg1 : w1.heap[w.heap.size]? = some (.cells s.cells 27 (0, 0)) := by rw [hw1]; exact heap_alloc_new w _
  have hs1 : w.heap.size < w1.heap.size := by rw [hw1]; simp
  have HBX : Hid (∀ W, Below w1.heap.size w1 W → W.cell? ⟨w.heap.size, 0, none⟩ = some (.slice s.TA s.tabs.length s.tc) ∧ W.cell? ⟨w.heap.size, 1, none⟩ = some (.slice s.FA s.fks.length s.fc) ∧ W.cell? ⟨w.heap.size, 2, none⟩ = some (.slice s.NA s.cns.length s.nc)) := Lib.hid fun W hW => by
    have h := (hW.block w.heap.size hs1).trans hg1
    exact ⟨cell_of_row _ _ 0 _ _ _ h, cell_of_row _ _ 1 _ _ _ h, cell_of_row _ _ 2 _ _ _ h⟩
  have HSC := Lib.hid hs
  have HH := Lib.hid H
  have HB1 := Lib.hid (And.intro hb1 hs1)
  have HW1 := Lib.hid hw1
  have HN := Lib.hid hn
  have hn8 : n ≤ 8 := by have := H.n8; omega
  obtain ⟨x0, x1, x2⟩ := HBX.out w1 (Below.refl _ _)
  unfold Sc.cells at HW1
  unfold Sc.v Sc.cells at HH ⊢
  rw [hn] at HBX HW1 HH x2 ⊢
  clear hs H hb1 hg1 hs1 hw1 hn
  go_enter Tryz.func47, Tryz.ntmps47
  go_upto_region 1 with fail
  rw [← HW1.out]
  go_wp2_with fail
  go_loopw [5, 15] (fun v5 vi wr => ∃ (i : Nat) (vs : List Vio), vi = .int .i64 (i : Int) ∧ i ≤ n ∧ VO w1.heap.size w1 wr v5 vs (vioD 11 Q rows i) ∧ vs.length ≤ i * 24) (fun _ vi _ => n - (intOf vi).toNat)
  case atStart => exact ⟨0, [], rfl, by omega, ⟨Own.nil _, rfl, (fun k hk => by cases hk), Below.refl _ _⟩, Nat.zero_le _⟩
  case round =>
    obtain ⟨i, vs, rfl, hin, hV, hvl⟩ := hrel
    obtain ⟨wo, rfl⟩ : ∃ wo, wo = wr := ⟨_, rfl⟩
    obtain ⟨v0, rfl⟩ : ∃ v0, v0 = u5 := ⟨_, rfl⟩
    by_cases hlt : i < n
    · have hif : i < s.cns.length := by have := HN.out; omega
      have hb0o : Below w.heap.size w wo := HB1.out.1.trans (hV.bel.mono HB1.out.1.size)
      obtain ⟨x0, x1, x2⟩ := HBX.out wo hV.bel
      obtain ⟨fb, foff, hFA, -, f0, f1, f2, f3, f4, f5, f6⟩ := (HSC.out.on hb0o).cns.cn hif
      have HM : Hid ((s.cns.map Cn.name).getD i ⟨#[]⟩ = s.cns[i].name ∧ (s.cns.map Cn.val7).getD i undef = s.cns[i].val7) := Lib.hid ⟨by simp [List.getD_eq_getElem?_getD, List.getElem?_eq_getElem hif], by simp [List.getD_eq_getElem?_getD, List.getElem?_eq_getElem hif]⟩
      have HL24 := Lib.hid (HH.out.len i hlt)
      have hlt' : (i : Int) < (n : Int) := by omega
      generalize s.cns[i] = fk at *
      obtain ⟨w2, hw2⟩ : ∃ w2, w2 = wo.alloc (.cells #[.string fk.name, .int .i64 fk.left, .string fk.op, .int .i64 fk.right, .int .i64 fk.val.kind, .int .i64 fk.val.int, .string fk.val.text] 62) := ⟨_, rfl⟩
      have hb2 : Below wo.heap.size wo w2 := by rw [hw2]; exact (Below.refl _ _).alloc (Nat.le_refl _) _
      have hg2 : w2.heap[wo.heap.size]? = some (.cells #[.string fk.name, .int .i64 fk.left, .string fk.op, .int .i64 fk.right, .int .i64 fk.val.kind, .int .i64 fk.val.int, .string fk.val.text] 62 (0, 0)) := by rw [hw2]; exact heap_alloc_new wo _
      have hs2 : wo.heap.size < w2.heap.size := by rw [hw2]; simp
      have HTW := Lib.hid (HH.out.tab i hlt w2 (hb0o.trans (hb2.mono hb0o.size)))
      obtain ⟨y0, y1, y2⟩ := HBX.out w2 (hV.bel.trans (hb2.mono hV.bel.size))
      have g0 := cell_of_row _ _ 0 _ _ _ hg2
      have g1 := cell_of_row _ _ 1 _ _ _ hg2
      have g2 := cell_of_row _ _ 2 _ _ _ hg2
      have g3 := cell_of_row _ _ 3 _ _ _ hg2
      have g4 := cell_of_row _ _ 4 _ _ _ hg2
      have g5 := cell_of_row _ _ 5 _ _ _ hg2
      have g6 := cell_of_row _ _ 6 _ _ _ hg2
      have HV := Lib.hid (And.intro hV (And.intro hvl hb0o))
      have HB2 := Lib.hid (And.intro hb2 (And.intro hg2 hs2))
      have HW2 := Lib.hid hw2
      simp only [HM.out.1] at HTW
      clear hV hvl hb0o hb2 hg2 hs2 hw2
      rw [hFA] at HTW HH HBX y2 ⊢
      clear hFA
      go_upto_region 5 with fail
      rw [← HW2.out]
      go_wp2_with fail
      refine HTW.out.mono ?_
      rintro e w3 ⟨A1, c1, A2, c2, A3, n3, c3, ks, rfl, ht3, hr3, hn3, hR3, hb3⟩
      subst hn3
      obtain ⟨n3, hn3⟩ : ∃ n, ks.length = n := ⟨_, rfl⟩
      rw [hn3]
      obtain ⟨w4, hw4⟩ : ∃ w4, w4 = w3.alloc (.cells #[.string (tt i).name, .slice A1 (tt i).cols.length c1, .slice A2 (tt i).pk.length c2] 71) := ⟨_, rfl⟩
      have hb4 : Below w3.heap.size w3 w4 := by rw [hw4]; exact (Below.refl _ _).alloc (Nat.le_refl _) _
      have hg4 : w4.heap[w3.heap.size]? = some (.cells #[.string (tt i).name, .slice A1 (tt i).cols.length c1, .slice A2 (tt i).pk.length c2] 71 (0, 0)) := by rw [hw4]; exact heap_alloc_new w3 _
      have hs4 : w3.heap.size < w4.heap.size := by rw [hw4]; simp
      have hb24 := hb3.trans (hb4.mono hb3.size)
      have hbo4 : Below wo.heap.size wo w4 := HB2.out.1.trans (hb24.mono HB2.out.1.size)
      have hnR : n3 = (rows i).length := by rw [← hR3, List.length_map, hn3]
      -- what holds in every world of the inner loop
      have HIN : Hid (∀ W v, Ext w4 v0 W v → (W.cell? ⟨wo.heap.size, 0, none⟩ = some (.string fk.name) ∧ W.cell? ⟨wo.heap.size, 1, none⟩ = some (.int .i64 fk.left) ∧ W.cell? ⟨wo.heap.size, 2, none⟩ = some (.string fk.op) ∧ W.cell? ⟨wo.heap.size, 3, none⟩ = some (.int .i64 fk.right) ∧ W.cell? ⟨wo.heap.size, 4, none⟩ = some (.int .i64 fk.val.kind) ∧ W.cell? ⟨wo.heap.size, 5, none⟩ = some (.int .i64 fk.val.int) ∧ W.cell? ⟨wo.heap.size, 6, none⟩ = some (.string fk.val.text)) ∧ (W.cell? ⟨w3.heap.size, 0, none⟩ = some (.string (tt i).name) ∧ W.cell? ⟨w3.heap.size, 1, none⟩ = some (.slice A1 (tt i).cols.length c1) ∧ W.cell? ⟨w3.heap.size, 2, none⟩ = some (.slice A2 (tt i).pk.length c2)) ∧ RsOk (· < W.heap.size) W A3 ks ∧ TOk (· < W.heap.size) W ⟨(tt i).name, A1, c1, (tt i).cols, A2, c2, (tt i).pk⟩) := Lib.hid fun W v hE => by
        have hv0 : ∀ g, v0.ownBlock = some g → g < wo.heap.size := fun g hg => (Own.lt HV.out.1.own g hg).2
        have hso := HB2.out.1.size
        have hs24 := hb24.size
        have hk : Keeps (fun g => wo.heap.size ≤ g ∧ g < w4.heap.size) w4 W := hE.keeps fun g hg => ⟨hg.2, fun e => by have := hv0 g e.symm; omega⟩
        have h1 : W.heap[wo.heap.size]? = _ := (hk wo.heap.size ⟨Nat.le_refl _, Nat.lt_of_lt_of_le HB2.out.2.2 hs24⟩).trans ((hb24.block _ HB2.out.2.2).trans HB2.out.2.1)
        have h2 : W.heap[w3.heap.size]? = _ := (hk w3.heap.size ⟨Nat.le_trans hso hb3.size, hs4⟩).trans hg4
        have hsz := hE.size
        exact ⟨⟨cell_of_row _ _ 0 _ _ _ h1, cell_of_row _ _ 1 _ _ _ h1, cell_of_row _ _ 2 _ _ _ h1, cell_of_row _ _ 3 _ _ _ h1, cell_of_row _ _ 4 _ _ _ h1, cell_of_row _ _ 5 _ _ _ h1, cell_of_row _ _ 6 _ _ _ h1⟩, ⟨cell_of_row _ _ 0 _ _ _ h2, cell_of_row _ _ 1 _ _ _ h2, cell_of_row _ _ 2 _ _ _ h2⟩,
          ⟨hr3.el.of fun g hg => ⟨(hk g ⟨by omega, by omega⟩).trans (hb4.block g hg.2), by omega⟩, fun x hx => (hr3.row x hx).of fun g hg => ⟨(hk g ⟨by omega, by omega⟩).trans (hb4.block g hg.2), by omega⟩⟩,
          ht3.of fun g hg => ⟨(hk g ⟨by omega, by omega⟩).trans (hb4.block g hg.2), by omega⟩⟩
      have hn24 : n3 ≤ 24 := by have := HL24.out; omega
      have HR3 := Lib.hid (And.intro hR3 (And.intro hn3 hnR))
      have HB4 := Lib.hid hbo4
      have HW4 := Lib.hid hw4
      clear ht3 hr3 hn3 hR3 hb3 hw4 hb4 hg4 hs4 hb24 hbo4 hnR HTW x0 x1 x2 f0 f1 f2 f3 f4 f5 f6 y0 y1 y2 g0 g1 g2 g3 g4 g5 g6
      go_upto_region 6 with fail
      rw [← HW4.out]
      go_wp2_with fail
      have hV4 := HV.out.1.below HB4.out HV.out.1.bel.size
      go_loopw [5, 30] (fun v5 vj wr => ∃ (j : Nat) (vs : List Vio), vj = .int .i64 (j : Int) ∧ j ≤ n3 ∧ VO w1.heap.size w1 wr v5 vs (vioD 11 Q rows i ++ vioR 11 (i : Int) (Q i) ((rows i).take j)) ∧ vs.length ≤ i * 24 + j ∧ Ext w4 v0 wr v5) (fun _ vj _ => n3 - (intOf vj).toNat)
      case atStart => exact ⟨0, vs, rfl, by omega, by simpa [vioR] using hV4, HV.out.2.1, Ext.refl _ _⟩
      case round =>
        clear hV4
        obtain ⟨j, vs2, rfl, hjn, hV2, hvl2, hE2⟩ := hrel
        obtain ⟨wq, rfl⟩ : ∃ wq, wq = wr := ⟨_, rfl⟩
        obtain ⟨v3, rfl⟩ : ∃ v3, v3 = u5 := ⟨_, rfl⟩
        by_cases hlj : j < n3
        · have hki : j < ks.length := by have := HR3.out.2.1; omega
          have hlj' : (j : Int) < (n3 : Int) := by omega
          obtain ⟨⟨f0, f1, f2, f3, f4, f5, f6⟩, ⟨t0, t1, t2⟩, hrs, htk⟩ := HIN.out wq v3 hE2
          obtain ⟨lb, loff, hA3, -, q0⟩ := hrs.el.key hki
          have hb1q : w1.heap.size ≤ wq.heap.size := hV2.bel.size
          have hb0q : Below w.heap.size w wq := HB1.out.1.trans (hV2.bel.mono HB1.out.1.size)
          obtain ⟨x0, x1, x2⟩ := HBX.out wq hV2.bel
          have hmem : ks[j].row ∈ rows i := by rw [← HR3.out.1]; exact List.mem_map_of_mem (List.getElem_mem hki)
          have HRF := Lib.hid (HH.out.tst i hlt wq hb0q ks[j] (hrs.row _ (List.getElem_mem hki)) hmem)
          have hkr := hrs.row _ (List.getElem_mem hki)
          have HFV : Hid (∀ W, Below wq.heap.size wq W → _) := Lib.hid fun W (hW : Below wq.heap.size wq W) => fvk hV2 hb1q hE2 hW (htk.on hW) (hkr.on hW) (HH.out.pk i hlt) (by have := HL24.out; have := HH.out.n8; have := HR3.out.2.2; omega) 11 (i : Int)
          have HSUC : Hid (vioR 11 (i : Int) (Q i) ((rows i).take (j + 1)) = vioR 11 (i : Int) (Q i) ((rows i).take j) ++ (if Q i ks[j].row = true then [] else [(11, (i : Int), keyOf [0] ks[j].row)])) := Lib.hid (by
            have hjl : j < (rows i).length := by have := HR3.out.2.2; omega
            have h : (rows i)[j] = ks[j].row := by simp [← HR3.out.1]
            rw [vioR_succ _ _ _ _ j hjl, h])
          have HV2 := Lib.hid (And.intro hV2 (And.intro hvl2 (And.intro hE2 hb1q)))
          have HAF : Hid (∀ W, Below wq.heap.size wq W → (W.cell? ⟨w3.heap.size, 0, none⟩ = some (.string (tt i).name) ∧ W.cell? ⟨w3.heap.size, 1, none⟩ = some (.slice A1 (tt i).cols.length c1) ∧ W.cell? ⟨w3.heap.size, 2, none⟩ = some (.slice A2 (tt i).pk.length c2))) := Lib.hid fun W hW => (HIN.out W v3 (hE2.then_below hW)).2.1
          simp only [HM.out.2] at HRF
          unfold Cn.val7 Cn.cells at HRF
          unfold Tbl.val at HFV
          clear hV2 hvl2 hE2 hrs htk hb1q hb0q hmem hkr
          generalize ks[j] = q at *
          obtain ⟨qA, qc, qr⟩ := q
          simp only at *
          rw [hA3]
          go_wp2_with fail
          refine HRF.out.mono ?_
          rintro e w5 ⟨rfl, hb5⟩
          have HB5 := Lib.hid hb5
          clear hb5 f0 f1 f2 f3 f4 f5 f6 t0 t1 t2 x0 x1 x2 q0
          obtain ⟨t0, t1, t2⟩ := HAF.out w5 HB5.out
          cases hq : Q i qr with
          | true =>
            rw [hq, if_pos rfl, List.append_nil] at HSUC
            have HQ := Lib.hid hq
            clear hq
            go_wp2_with fail
            go_roundw
            case rel => exact ⟨j + 1, vs2, by go_num, by omega, by rw [HSUC.out]; exact HV2.out.1.below HB5.out HV2.out.2.2.2, by have := HV2.out.2.1; omega, HV2.out.2.2.1.then_below HB5.out⟩
            case measure => simp [intOf]; omega
          | false =>
            rw [hq, if_neg (by decide)] at HSUC
            have HQ := Lib.hid hq
            clear hq
            go_wp2_with fail
            refine (HFV.out w5 HB5.out).mono ?_
            rintro e w6 ⟨A6, c6, rfl, HAP⟩
            go_wp2_with (at_builtin; refine wpList_app rfl (.tmp 38) (.tmp 44) _ _ rfl rfl rfl (HAP.out _) ?_; rintro v7 w7 ⟨vs7, hV7, hl7, hE7⟩)
            have HF := Lib.hid (And.intro hV7 (And.intro hl7 hE7))
            clear hV7 hl7 hE7
            go_roundw
            case rel => exact ⟨j + 1, vs7, by go_num, by omega, by rw [HSUC.out, ← List.append_assoc]; exact HF.out.1, by have := HV2.out.2.1; have := HF.out.2.1; omega, HF.out.2.2⟩
            case measure => simp [intOf]; omega
        · have hj : j = n3 := by omega
          have HEND : Hid (VO w1.heap.size w1 wq v3 vs2 (vioD 11 Q rows (i + 1)) ∧ vs2.length ≤ (i + 1) * 24) := Lib.hid (by
            rw [vioD_succ]
            have h1 := HR3.out.2.2
            have h2 := HL24.out
            rw [List.take_of_length_le (by omega)] at hV2
            exact ⟨hV2, by omega⟩)
          clear hV2 hvl2 hE2
          go_wp2_with fail
          go_roundw
          case rel => exact ⟨i + 1, vs2, by go_num, by omega, HEND.out.1, HEND.out.2⟩
          case measure => simp [intOf]; omega
    · have hi : i = n := by omega
      subst hi
      obtain ⟨A9, c9, rfl, -, -⟩ := hV.own.form
      have HF : Hid (VO w.heap.size w wo (.slice A9 vs.length c9) vs (vioD 11 Q rows i)) := Lib.hid ⟨hV.own.mono HB1.out.1.size, hV.dat, fun k hk => (hV.key k hk).more fun g hg => ⟨Nat.le_trans HB1.out.1.size hg.1, hg.2⟩, HB1.out.1.trans (hV.bel.mono HB1.out.1.size)⟩
      clear hV hvl
      go_wp2_with fail
      go_ret
      exact ⟨_, _, _, vs, rfl, HF.out⟩
end Go.Proofs.YtefifkleamiabaaGreatDoor

namespace Go.Proofs.YtefifkleamiabaaGreatDoor
open Go.RowKit Go.Sort

set_option maxRecDepth 100000 in
set_option maxHeartbeats 1000000 in
theorem growV_nil (n : Nat) (w : World) (hn : n ≤ 100000) :
    Calls Tryz.prog 84 #[.slice none 0 0, .int .i64 n] w fun e w' => ∃ v, e = .returned v ∧ Own 4 Vio.cs 64 w.heap.size w' v ([] : List Vio) ∧ Below w.heap.size w w' := by
  rcases Nat.eq_zero_or_pos n with rfl | hpos
  · go_enter Tryz.func84, Tryz.ntmps84
    go_wp2_with fail
    go_ret
    exact ⟨_, rfl, Own.nil _, Below.refl _ _⟩
  · obtain ⟨i, z, hi, hz, h2, h3, h4⟩ := elem_vios.info
    have happ := Lib.run_append_nil_zeros (P := Tryz.prog) w 54 3 54 64 i z .i64 .i64 elem_vios.und Tryz.underlying3 hi hz n hpos (by omega) (by omega) (by rw [h3]; omega)
    generalize hcap : grownCap w n 0 64 = cap2 at happ
    have hcapge : n ≤ cap2 := by rw [← hcap]; exact grownCap_ge w _ 0 _
    have hcaple : cap2 ≤ maxLen := by rw [← hcap]; exact grownCap_le_maxLen w _ 0 _ (by unfold maxLen; omega)
    generalize hZ : (Builtin.zeroCells z.cells n ++ Builtin.zeroCells z.cells (cap2 - n)) = Z at happ
    have hZs : Z.size = cap2 * 4 := by rw [← hZ]; simp [size_zeroCells, h4]; omega
    have HO := Lib.hid (World.ownsRow_made (base := w.heap.size) (e := 64) (size := 4) w.drew Z cap2 (Nat.le_refl _) hcaple hZs)
    have hg0 : (0 : Int) < (n : Int) := by omega
    have hc0 : (0 : Int) ≤ (cap2 : Int) := by omega
    have HM := Lib.hid hcaple
    clear hcap hZ hcaple hi hz h2 h3 h4
    go_enter Tryz.func84, Tryz.ntmps84
    go_wp2_with (at_builtin; refine Lib.wpList_append_run _ rfl _ _ _ _ rfl _ _ rfl rfl _ _ happ ?_)
    go_ret
    exact ⟨_, rfl, HO.out, (Below.refl _ _).drew.alloc (Nat.le_refl _) _⟩

/-- The head of a slice of runs. -/
structure VHdr where
  A : Option Addr
  c : Nat
  xs : List Vio
def VHdr.cs (h : VHdr) : List Value := [.slice h.A h.xs.length h.c]
def VHdr.all (hs : List VHdr) : List Vio := hs.flatMap VHdr.xs

theorem VHdr.all_take {hs : List VHdr} {k : Nat} (hk : k < hs.length) : VHdr.all (hs.take (k + 1)) = VHdr.all (hs.take k) ++ hs[k].xs := by
  unfold VHdr.all
  rw [List.take_succ_eq_append_getElem hk, List.flatMap_append]
  simp
theorem VHdr.all_len (hs : List VHdr) (k : Nat) : (VHdr.all (hs.take k)).length ≤ (VHdr.all hs).length := by
  have h : VHdr.all hs = VHdr.all (hs.take k) ++ VHdr.all (hs.drop k) := by
    conv => lhs; rw [← List.take_append_drop k hs]
    exact List.flatMap_append
  rw [h]
  simp

theorem Elems.vhdr {w : World} {S : Nat → Prop} {A : Option Addr} {r : List VHdr} {k : Nat} (h : Elems 1 VHdr.cs w S A r) (hk : k < r.length) :
    ∃ b off, A = some ⟨b, off, none⟩ ∧ S b ∧ w.cell? ⟨b, off + k, none⟩ = some (.slice r[k].A r[k].xs.length r[k].c) := by
  obtain ⟨b, off, e, hb, hc⟩ := h.at_ hk
  exact ⟨b, off, e, hb, by simpa using hc 0 _ rfl⟩

set_option maxRecDepth 100000 in
set_option maxHeartbeats 1000000 in
theorem concatV (A : Option Addr) (c : Nat) (hs : List VHdr) (w : World) (hx : Elems 1 VHdr.cs w (· < w.heap.size) A hs) (he : ∀ h ∈ hs, Elems 4 Vio.cs w (· < w.heap.size) h.A h.xs) (hl : hs.length ≤ 10) (ht : (VHdr.all hs).length ≤ 100000) :
    Calls Tryz.prog 45 #[.slice A hs.length c] w fun e w' => ∃ v, e = .returned v ∧ Own 4 Vio.cs 64 w.heap.size w' v (VHdr.all hs) ∧ Below w.heap.size w w' := by
  go_enter Tryz.func45, Tryz.ntmps45
  go_wp2_with fail
  go_loopw [3, 11] (fun n i wr => ∃ k : Nat, k ≤ hs.length ∧ i = .int .i64 k ∧ n = .int .i64 ((VHdr.all (hs.take k)).length : Int) ∧ w = wr) (fun _ i _ => hs.length - (intOf i).toNat)
  case atStart => exact ⟨0, by omega, rfl, rfl, rfl⟩
  case round =>
    obtain ⟨k, hk, rfl, rfl, rfl⟩ := hrel
    by_cases hlt : k < hs.length
    · obtain ⟨b, off, rfl, hbs, c0⟩ := hx.vhdr hlt
      have hT := VHdr.all_take hlt
      have hL := VHdr.all_len hs (k + 1)
      rw [hT, List.length_append] at hL
      have HT := Lib.hid hT
      have hn1 : (VHdr.all (hs.take k)).length + hs[k].xs.length ≤ 100000 := by omega
      clear hT hL
      generalize hs[k] = x at *
      generalize VHdr.all (hs.take k) = d at *
      have HE := Lib.hid he
      clear he
      have hn0 : ¬ ((d.length : Int) + (x.xs.length : Int) < 0) := by omega
      go_wp2_with fail
      go_roundw
      case rel => exact ⟨k + 1, by omega, by go_num, val_int (by rw [HT.out, List.length_append, Int.natCast_add]), trivial⟩
      case measure => simp [intOf]; omega
    · have hkl : k = hs.length := by omega
      subst hkl
      rw [List.take_of_length_le (Nat.le_refl _)]
      go_wp2_with fail
      refine (growV_nil _ w ht).mono ?_
      rintro e w1 ⟨v1, rfl, ho1, hb1⟩
      have HE := Lib.hid he
      have HT := Lib.hid ht
      clear he ht
      go_wp2_with fail
      go_loopw [6, 27] (fun o i wr => ∃ k : Nat, k ≤ hs.length ∧ i = .int .i64 k ∧ Own 4 Vio.cs 64 w.heap.size wr o (VHdr.all (hs.take k)) ∧ Below w.heap.size w wr) (fun _ i _ => hs.length - (intOf i).toNat)
      case atStart => exact ⟨0, by omega, rfl, ho1, hb1⟩
      case round =>
        obtain ⟨k, hk, rfl, ho, hb⟩ := hrel
        by_cases hlt : k < hs.length
        · obtain ⟨b, off, rfl, hbs, c0⟩ := (hx.keep (Keeps.of_below hb fun _ h => h)).vhdr hlt
          have hT := VHdr.all_take hlt
          have hL := VHdr.all_len hs (k + 1)
          rw [hT, List.length_append] at hL
          have hel := (HE.out _ (List.getElem_mem hlt)).keep (Keeps.of_below hb fun _ h => h)
          have h2 : (VHdr.all (hs.take k)).length + hs[k].xs.length ≤ 100000 := Nat.le_trans hL HT.out
          have H1 : Hid (((VHdr.all (hs.take k)).length + hs[k].xs.length) * 48 ≤ 140737488355328) := Lib.hid (by omega)
          have H2 : Hid ((VHdr.all (hs.take k)).length + hs[k].xs.length ≤ maxLen) := Lib.hid (by unfold maxLen; omega)
          have HQ := Lib.hid hT
          clear hT hL h2
          generalize hs[k] = x at *
          generalize VHdr.all (hs.take k) = d at *
          have HL := Lib.hid hel
          have HO := Lib.hid ho
          clear hel ho
          go_wp2_with (at_builtin; refine wpList_app rfl (.tmp 31) (.tmp 32) _ _ rfl rfl rfl (run_pushs elem_vios vioLay _ _ _ d HO.out HL.out rfl H1.out H2.out hb.size) ?_; rintro v2 w2 ⟨ho2, hx2⟩)
          go_roundw
          case rel => exact ⟨k + 1, by omega, by go_num, by rw [HQ.out]; exact ho2, hb.trans (hx2.below hb.size (fun g hg => (HO.out.lt g hg).1))⟩
          case measure => simp [intOf]; omega
        · have hkl : k = hs.length := by omega
          subst hkl
          rw [List.take_of_length_le (Nat.le_refl _)] at ho
          go_wp2_with fail
          go_ret
          exact ⟨_, rfl, ho, hb⟩


/-- What Find answers. -/
def FindAns (w : World) (ds : List (Int × Int × Row)) (e : Ending) (w' : World) : Prop :=
  ∃ A n c vs, e = .returned (.tuple #[.slice A n c, .int .i64 0]) ∧ Elems 4 Vio.cs w' (· < w'.heap.size) A vs ∧ (∀ x ∈ vs, KOk (· < w'.heap.size) w' x.key) ∧ n = vs.length ∧ vs.map Vio.d = ds ∧ Below w.heap.size w w'

/-- The joined list, in memory. -/
def FinV (w : World) (ds : List (Int × Int × Row)) (A : Option Addr) (n : Nat) (w' : World) : Prop :=
  ∃ vs, Elems 4 Vio.cs w' (· < w'.heap.size) A vs ∧ (∀ x ∈ vs, KOk (· < w'.heap.size) w' x.key) ∧ n = vs.length ∧ vs.map Vio.d = ds ∧ Below w.heap.size w w'
def FiK2 (w : World) (ds : List (Int × Int × Row)) (A1 : Option Addr) (n1 c1 : Nat) (e : Ending) (w5 : World) : Prop :=
  ∃ A2 n2 c2, e = .returned (.slice A2 n2 c2) ∧ Hid (Calls Tryz.prog 45 #[.slice (some ⟨w5.heap.size, 0, none⟩) 2 2] (w5.alloc (.cells #[.slice A1 n1 c1, .slice A2 n2 c2] 54)) fun e w6 => ∃ A n c, e = .returned (.slice A n c) ∧ FinV w ds A n w6)
def FiK1 (w : World) (S : World → Prop) (sv inst : Value) (ds : List (Int × Int × Row)) (e : Ending) (w4 : World) : Prop :=
  ∃ A1 n1 c1, e = .returned (.slice A1 n1 c1) ∧ S w4 ∧ Hid (Calls Tryz.prog 47 #[sv, inst] w4 (FiK2 w ds A1 n1 c1))
theorem joinV {w w5 : World} {d1 d2 : List (Int × Int × Row)} {A1 A2 : Option Addr} {c1 c2 : Nat} {vs1 vs2 : List Vio} (hb : Below w.heap.size w w5) (e1 : Elems 4 Vio.cs w5 (· < w5.heap.size) A1 vs1) (k1 : ∀ x ∈ vs1, KOk (· < w5.heap.size) w5 x.key) (m1 : vs1.map Vio.d = d1) (e2 : Elems 4 Vio.cs w5 (· < w5.heap.size) A2 vs2) (k2 : ∀ x ∈ vs2, KOk (· < w5.heap.size) w5 x.key) (m2 : vs2.map Vio.d = d2) (hl : vs1.length + vs2.length ≤ 1000) :
    Calls Tryz.prog 45 #[.slice (some ⟨w5.heap.size, 0, none⟩) 2 2] (w5.alloc (.cells #[.slice A1 vs1.length c1, .slice A2 vs2.length c2] 54)) fun e w6 => ∃ A n c, e = .returned (.slice A n c) ∧ FinV w (d1 ++ d2) A n w6 := by
  have ha : Below w5.heap.size w5 (w5.alloc (.cells #[.slice A1 vs1.length c1, .slice A2 vs2.length c2] 54)) := (Below.refl _ _).alloc (Nat.le_refl _) _
  have hx : Elems 1 VHdr.cs (w5.alloc (.cells #[.slice A1 vs1.length c1, .slice A2 vs2.length c2] 54)) (fun g => g = w5.heap.size) (some ⟨w5.heap.size, 0, none⟩) [⟨A1, c1, vs1⟩, ⟨A2, c2, vs2⟩] :=
    elems_block ⟨fun _ => rfl, fun x c hc => by simp [VHdr.cs] at hc; subst hc; rfl⟩ (heap_alloc_new w5 _) rfl (by show 2 ≤ maxLen; decide) rfl
  have on1 := fun g (hg : g < w5.heap.size) => (⟨ha.block g hg, Nat.lt_of_lt_of_le hg ha.size⟩ : _ ∧ g < (w5.alloc (.cells #[.slice A1 vs1.length c1, .slice A2 vs2.length c2] 54)).heap.size)
  have hall : VHdr.all [⟨A1, c1, vs1⟩, ⟨A2, c2, vs2⟩] = vs1 ++ vs2 := by simp [VHdr.all]
  refine (concatV (some ⟨w5.heap.size, 0, none⟩) 2 [⟨A1, c1, vs1⟩, ⟨A2, c2, vs2⟩] _ (hx.more fun g hg => by subst hg; simp) (fun h hh => ?_) (by show 2 ≤ 10; omega) (by rw [hall, List.length_append]; omega)).mono ?_
  · simp only [List.mem_cons, List.not_mem_nil, or_false] at hh
    rcases hh with rfl | rfl
    · exact e1.of on1
    · exact e2.of on1
  · rintro e w6 ⟨v, rfl, ho, hb6⟩
    rw [hall] at ho
    obtain ⟨A, c, rfl, -, -⟩ := ho.form
    have hb56 : Below w5.heap.size w5 w6 := ha.trans (hb6.mono ha.size)
    refine ⟨A, _, c, rfl, vs1 ++ vs2, (ho.elems vioLay.len rfl).more fun g hg => (Own.lt ho g hg).2, fun x hx => ?_, rfl, by rw [List.map_append, m1, m2], hb.trans (hb56.mono hb.size)⟩
    rcases List.mem_append.1 hx with hx | hx
    · exact (k1 x hx).on hb56
    · exact (k2 x hx).on hb56

set_option maxRecDepth 100000 in
set_option maxHeartbeats 8000000 in
theorem findW (s : Sc) (inst : Value) (tt ct : Nat → Tbl) (Q P : Nat → Row → Bool) (rows crows : Nat → List Row) (w : World) (hs : ScOk (· < w.heap.size) w s)
    (hV : ∀ W, Below w.heap.size w W → Calls Tryz.prog 44 #[s.v] W fun e w' => e = .returned (.int .i64 0) ∧ Below W.heap.size W w')
    (hC : ∀ W, Below w.heap.size w W → Calls Tryz.prog 38 #[s.v, inst] W fun e w' => e = .returned (.int .i64 0) ∧ Below W.heap.size W w')
    (H : ∀ W, Below w.heap.size w W → VioH W inst s.v s.fks.length (fun i => (s.fks.map FkM.name).getD i ⟨#[]⟩) 86 (fun i v => #[s.v, inst, (s.fks.map FkM.val).getD i undef, v]) tt Q rows)
    (H2 : ∀ W, Below w.heap.size w W → VioH W inst s.v s.cns.length (fun i => (s.cns.map Cn.name).getD i ⟨#[]⟩) 87 (fun i v => #[(s.cns.map Cn.val7).getD i undef, v]) ct P crows)
    (hlen : (vioD 10 Q rows s.fks.length).length + (vioD 11 P crows s.cns.length).length ≤ 1000) :
    Calls Tryz.prog 19 #[s.v, inst] w (FindAns w (vioD 10 Q rows s.fks.length ++ vioD 11 P crows s.cns.length)) := by
  obtain ⟨w1, hw1⟩ : ∃ w1, w1 = w.alloc (.cells s.cells 27) := ⟨_, rfl⟩
  have hb1 : Below w.heap.size w w1 := by rw [hw1]; exact (Below.refl _ _).alloc (Nat.le_refl _) _
  have hg1 : w1.heap[w.heap.size]? = some (.cells s.cells 27 (0, 0)) := by rw [hw1]; exact heap_alloc_new w _
  have hs1 : w.heap.size < w1.heap.size := by rw [hw1]; simp
  have HBX : Hid (∀ W, Below w1.heap.size w1 W → W.cell? ⟨w.heap.size, 0, none⟩ = some (.slice s.TA s.tabs.length s.tc) ∧ W.cell? ⟨w.heap.size, 1, none⟩ = some (.slice s.FA s.fks.length s.fc) ∧ W.cell? ⟨w.heap.size, 2, none⟩ = some (.slice s.NA s.cns.length s.nc)) := Lib.hid fun W hW => by
    have h := (hW.block w.heap.size hs1).trans hg1
    exact ⟨cell_of_row _ _ 0 _ _ _ h, cell_of_row _ _ 1 _ _ _ h, cell_of_row _ _ 2 _ _ _ h⟩
  have HFK : Hid (∀ W, Below w.heap.size w W → _) := Lib.hid fun W (hW : Below w.heap.size w W) => foreignKeysW s inst tt Q rows W (hs.on hW) (H W hW)
  have HCN : Hid (∀ W, Below w.heap.size w W → _) := Lib.hid fun W (hW : Below w.heap.size w W) => constraintsW s inst ct P crows W (hs.on hW) (H2 W hW)
  have HV := Lib.hid hV
  have HC := Lib.hid hC
  have HLN := Lib.hid hlen
  have HB1 := Lib.hid (And.intro hb1 hs1)
  have HW1 := Lib.hid hw1
  obtain ⟨x0, x1, x2⟩ := HBX.out w1 (Below.refl _ _)
  unfold Sc.cells at HW1
  unfold Sc.v Sc.cells at HFK HCN HV HC ⊢
  clear hs hV hC H H2 hlen hb1 hg1 hs1 hw1
  generalize vioD 10 Q rows s.fks.length = d1 at *
  generalize vioD 11 P crows s.cns.length = d2 at *
  go_enter Tryz.func19, Tryz.ntmps19
  go_upto_region 1 with fail
  rw [← HW1.out]
  go_wp2_with fail
  refine (HV.out w1 HB1.out.1).mono ?_
  rintro e w2 ⟨rfl, hb2⟩
  have HB2 := Lib.hid (And.intro hb2 (HB1.out.1.trans (hb2.mono HB1.out.1.size)))
  clear hb2 x0 x1 x2
  obtain ⟨x0, x1, x2⟩ := HBX.out w2 HB2.out.1
  go_wp2_with fail
  refine (HC.out w2 HB2.out.2).mono ?_
  rintro e w3 ⟨rfl, hb3⟩
  have HB3 := Lib.hid (And.intro (HB2.out.1.trans (hb3.mono HB2.out.1.size)) (HB2.out.2.trans (hb3.mono HB2.out.2.size)))
  clear hb3 x0 x1 x2
  obtain ⟨x0, x1, x2⟩ := HBX.out w3 HB3.out.1
  have HK4 : Hid (∀ m, Calls Tryz.prog 46 #[.agg #[.slice s.TA s.tabs.length s.tc, .slice s.FA s.fks.length s.fc, .slice s.NA s.cns.length s.nc], inst] (w3.drewN m) (FiK1 w (fun W => W.cell? ⟨w.heap.size, 0, none⟩ = some (.slice s.TA s.tabs.length s.tc) ∧ W.cell? ⟨w.heap.size, 1, none⟩ = some (.slice s.FA s.fks.length s.fc) ∧ W.cell? ⟨w.heap.size, 2, none⟩ = some (.slice s.NA s.cns.length s.nc)) (.agg #[.slice s.TA s.tabs.length s.tc, .slice s.FA s.fks.length s.fc, .slice s.NA s.cns.length s.nc]) inst (d1 ++ d2))) := Lib.hid fun m => by
    have hd : Below w3.heap.size w3 (w3.drewN m) := below_drewN (Below.refl _ _) m
    have hb0d := HB3.out.2.trans (hd.mono HB3.out.2.size)
    refine (HFK.out _ hb0d).mono ?_
    rintro e w4 ⟨A1, n1, c1, vs1, rfl, hv1⟩
    obtain ⟨A1', c1', he1, -, -⟩ := hv1.own.form
    injection he1 with e1 e2 e3
    subst e1 e2 e3
    have hb34 : Below w3.heap.size w3 w4 := hd.trans (hv1.bel.mono hd.size)
    have hb04 := HB3.out.2.trans (hb34.mono HB3.out.2.size)
    refine ⟨A1, _, c1, rfl, HBX.out w4 (HB3.out.1.trans (hb34.mono HB3.out.1.size)), Lib.hid ?_⟩
    refine (HCN.out w4 hb04).mono ?_
    rintro e w5 ⟨A2, n2, c2, vs2, rfl, hv2⟩
    obtain ⟨A2', c2', he2, -, -⟩ := hv2.own.form
    injection he2 with e1 e2 e3
    subst e1 e2 e3
    have hl : vs1.length + vs2.length ≤ 1000 := by have := HLN.out; rw [← hv1.dat, ← hv2.dat, List.length_map, List.length_map] at this; exact this
    exact ⟨A2, _, c2, rfl, Lib.hid (joinV (hb04.trans (hv2.bel.mono hb04.size)) (((hv1.own.elems vioLay.len rfl).more fun g hg => (Own.lt hv1.own g hg).2).of fun g hg => ⟨hv2.bel.block g hg, Nat.lt_of_lt_of_le hg hv2.bel.size⟩) (fun x hx => ((hv1.key x hx).more fun g hg => hg.2.1).on hv2.bel) hv1.dat ((hv2.own.elems vioLay.len rfl).more fun g hg => (Own.lt hv2.own g hg).2) (fun x hx => (hv2.key x hx).more fun g hg => hg.2.1) hv2.dat hl)⟩
  go_wp2_with fail
  go_region_law (first
    | (go_simp; go_at_call 46; refine (HK4.out _).mono ?_; rintro e w4 ⟨A4, n4, c4, rfl, ⟨a0, a1, a2⟩, HK5⟩)
    | (go_simp; go_at_call 47; refine HK5.out.mono ?_; rintro e w5 ⟨A5, n5, c5, rfl, HK6⟩)
    | (go_simp; go_at_call 45; refine HK6.out.mono ?_; rintro e w6 ⟨A6, n6, c6, rfl, hfin⟩))
  all_goals
    have HF := Lib.hid hfin
    clear hfin
    go_wp2_with fail
    go_ret2
    obtain ⟨vs, h1, h2, h3, h4, h5⟩ := HF.out
    exact ⟨_, _, _, vs, rfl, h1, h2, h3, h4, h5⟩
end Go.Proofs.YtefifkleamiabaaGreatDoor

namespace Go.Proofs.YtefifkleamiabaaGreatDoor
open Go.RowKit Go.Sort

theorem Elems.vio {w : World} {S : Nat → Prop} {A : Option Addr} {r : List Vio} {k : Nat} (h : Elems 4 Vio.cs w S A r) (hk : k < r.length) : ∃ b off, A = some ⟨b, off, none⟩ ∧ S b ∧ w.cell? ⟨b, off + k * 4, none⟩ = some (.int .i64 0) ∧ w.cell? ⟨b, off + k * 4 + 1, none⟩ = some (.int .i64 r[k].err) ∧ w.cell? ⟨b, off + k * 4 + 2, none⟩ = some (.int .i64 r[k].idx) ∧ w.cell? ⟨b, off + k * 4 + 3, none⟩ = some (.slice r[k].key.A r[k].key.row.length r[k].key.c) := by
  obtain ⟨b, off, e, hb, hc⟩ := h.at_ hk
  exact ⟨b, off, e, hb, hc 0 _ rfl, hc 1 _ rfl, hc 2 _ rfl, hc 3 _ rfl⟩
def Val.vv (v : Val) : Value := .agg #[.int .i64 v.kind, .int .i64 v.int, .string v.text]
def Vio.vv (x : Vio) : Value := .agg #[.int .i64 0, .int .i64 x.err, .int .i64 x.idx, .slice x.key.A x.key.row.length x.key.c]

set_option maxRecDepth 100000 in
set_option maxHeartbeats 1000000 in
theorem indexFuncRow {w0 : World} {fid : FuncId} {caps : Array Value} {p : Key → Bool} {M : Key → Prop} (A : Option Addr) (c : Nat) (xs : List Key) (w : World) (hT : TestC w0 fid caps Key.v (fun W x => KOk (· < W.heap.size) W x ∧ M x) p) (hb : Below w0.heap.size w0 w) (hx : Elems 1 Key.cs w (· < w.heap.size) A xs) (hk : ∀ x ∈ xs, (fun W x => KOk (· < W.heap.size) W x ∧ M x) w x) (hl : xs.length ≤ 1000) :
    Calls Tryz.prog 63 #[.slice A xs.length c, .func (.func fid) #[] caps] w fun e w' => e = .returned (.int .i64 (fidx p xs)) ∧ Below w.heap.size w w' := by
  have HX := Lib.hid hx
  have HK := Lib.hid hk
  have HT := Lib.hid hT
  have HB0 := Lib.hid hb
  have hent := hT.ent
  obtain ⟨n, hn⟩ : ∃ n, xs.length = n := ⟨_, rfl⟩
  rw [hn] at hl ⊢
  have HN := Lib.hid hn
  clear hx hn hk hT hb
  go_enter Tryz.func63, Tryz.ntmps63
  go_wp2_with fail
  go_loopw [8] (fun vi wr => ∃ k : Nat, vi = .int .i64 (k : Int) ∧ k ≤ n ∧ (∀ x ∈ xs.take k, p x = false) ∧ Below w.heap.size w wr) (fun vi _ => n - (intOf vi).toNat)
  case atStart => exact ⟨0, rfl, by omega, (by intro x hx; simp at hx), Below.refl _ _⟩
  case round =>
    obtain ⟨k, rfl, hkn, hbef, hb⟩ := hrel
    by_cases hlt : k < n
    · have hki : k < xs.length := by have := HN.out; omega
      obtain ⟨b, off, rfl, -, p0⟩ := (HX.out.on hb).key hki
      have HR := Lib.hid (HT.out.run xs[k] wr (HB0.out.trans (hb.mono HB0.out.size)) (⟨(HK.out _ (List.getElem_mem hki)).1.on hb, (HK.out _ (List.getElem_mem hki)).2⟩))
      have hlt' : (k : Int) < (n : Int) := by omega
      have HSUC : Hid (p xs[k] = false → ∀ x ∈ xs.take (k + 1), p x = false) := Lib.hid fun hp x hx => by
        rw [List.take_succ_eq_append_getElem hki] at hx
        rcases List.mem_append.1 hx with hx | hx
        · exact hbef x hx
        · rw [List.mem_singleton.1 hx]; exact hp
      have HAT : Hid (p xs[k] = true → fidx p xs = (k : Int)) := Lib.hid fun hp => fidx_at hki hp hbef
      have HB := Lib.hid hb
      clear hbef hb
      cases hp : p xs[k] with
      | true =>
        have HF := Lib.hid (HAT.out hp)
        rw [hp] at HR
        clear hp HSUC HAT
        generalize xs[k] = x at *
        go_wp2_with fail
        refine HR.out.mono ?_
        rintro e w1 ⟨rfl, hb1⟩
        have HB1 := Lib.hid (HB.out.trans (hb1.mono HB.out.size))
        clear hb1
        go_wp2_with fail
        go_ret
        exact ⟨ret_int HF.out.symm, HB1.out⟩
      | false =>
        have HF := Lib.hid (HSUC.out hp)
        rw [hp] at HR
        clear hp HSUC HAT
        generalize xs[k] = x at *
        go_wp2_with fail
        refine HR.out.mono ?_
        rintro e w1 ⟨rfl, hb1⟩
        have HB1 := Lib.hid (HB.out.trans (hb1.mono HB.out.size))
        clear hb1
        go_wp2_with fail
        go_roundw
        case rel => exact ⟨k + 1, by go_num, by omega, HF.out, HB1.out⟩
        case measure => simp [intOf]; omega
    · have hkn' : k = n := by omega
      subst hkn'
      have HF := Lib.hid (fidx_no (p := p) (xs := xs) (by rwa [List.take_of_length_le (by have := HN.out; omega)] at hbef))
      have HB := Lib.hid hb
      clear hbef hb
      go_wp2_with fail
      go_ret
      exact ⟨ret_int HF.out.symm, HB.out⟩

set_option maxRecDepth 100000 in
set_option maxHeartbeats 1000000 in
theorem containsFuncRow {w0 : World} {fid : FuncId} {caps : Array Value} {p : Key → Bool} {M : Key → Prop} (A : Option Addr) (c : Nat) (xs : List Key) (w : World) (hT : TestC w0 fid caps Key.v (fun W x => KOk (· < W.heap.size) W x ∧ M x) p) (hb : Below w0.heap.size w0 w) (hx : Elems 1 Key.cs w (· < w.heap.size) A xs) (hk : ∀ x ∈ xs, (fun W x => KOk (· < W.heap.size) W x ∧ M x) w x) (hl : xs.length ≤ 1000) :
    Calls Tryz.prog 90 #[.slice A xs.length c, .func (.func fid) #[] caps] w fun e w' => e = .returned (.bool (xs.any p)) ∧ Below w.heap.size w w' := by
  have HI := Lib.hid (indexFuncRow A c xs w hT hb hx hk hl)
  have HQ : Hid (decide ((0 : Int) ≤ fidx p xs) = xs.any p) := Lib.hid (by
    have h := (fidx_lt p xs).2.2
    cases ha : xs.any p with
    | true => exact decide_eq_true (h.2 ha)
    | false => exact decide_eq_false fun h0 => by have := h.1 h0; rw [ha] at this; cases this)
  clear hT hb hx hk hl
  generalize xs.length = n at *
  generalize fidx p xs = j at *
  generalize xs.any p = res at *
  go_enter Tryz.func90, Tryz.ntmps90
  go_wp2_with fail
  refine HI.out.mono ?_
  rintro e w1 ⟨rfl, hb1⟩
  have HF := Lib.hid hb1
  clear hb1
  go_wp2_with fail
  go_ret
  exact ⟨ret_bool HQ.out, HF.out⟩

set_option maxRecDepth 100000 in
set_option maxHeartbeats 1000000 in
theorem indexFuncVal {w0 : World} {fid : FuncId} {caps : Array Value} {p : Val → Bool} (A : Option Addr) (c : Nat) (xs : List Val) (w : World) (hT : TestC w0 fid caps Val.vv (fun _ _ => True) p) (hb : Below w0.heap.size w0 w) (hx : Elems 3 Val.cs w (· < w.heap.size) A xs) (hl : xs.length ≤ 1000) :
    Calls Tryz.prog 117 #[.slice A xs.length c, .func (.func fid) #[] caps] w fun e w' => e = .returned (.int .i64 (fidx p xs)) ∧ Below w.heap.size w w' := by
  have HX := Lib.hid hx
  have HT := Lib.hid hT
  have HB0 := Lib.hid hb
  have hent := hT.ent
  obtain ⟨n, hn⟩ : ∃ n, xs.length = n := ⟨_, rfl⟩
  rw [hn] at hl ⊢
  have HN := Lib.hid hn
  clear hx hn hT hb
  go_enter Tryz.func117, Tryz.ntmps117
  go_wp2_with fail
  go_loopw [8] (fun vi wr => ∃ k : Nat, vi = .int .i64 (k : Int) ∧ k ≤ n ∧ (∀ x ∈ xs.take k, p x = false) ∧ Below w.heap.size w wr) (fun vi _ => n - (intOf vi).toNat)
  case atStart => exact ⟨0, rfl, by omega, (by intro x hx; simp at hx), Below.refl _ _⟩
  case round =>
    obtain ⟨k, rfl, hkn, hbef, hb⟩ := hrel
    by_cases hlt : k < n
    · have hki : k < xs.length := by have := HN.out; omega
      obtain ⟨b, off, rfl, -, p0, p1, p2⟩ := (HX.out.on hb).val hki
      have HR := Lib.hid (HT.out.run xs[k] wr (HB0.out.trans (hb.mono HB0.out.size)) (trivial))
      have hlt' : (k : Int) < (n : Int) := by omega
      have HSUC : Hid (p xs[k] = false → ∀ x ∈ xs.take (k + 1), p x = false) := Lib.hid fun hp x hx => by
        rw [List.take_succ_eq_append_getElem hki] at hx
        rcases List.mem_append.1 hx with hx | hx
        · exact hbef x hx
        · rw [List.mem_singleton.1 hx]; exact hp
      have HAT : Hid (p xs[k] = true → fidx p xs = (k : Int)) := Lib.hid fun hp => fidx_at hki hp hbef
      have HB := Lib.hid hb
      clear hbef hb
      cases hp : p xs[k] with
      | true =>
        have HF := Lib.hid (HAT.out hp)
        rw [hp] at HR
        clear hp HSUC HAT
        generalize xs[k] = x at *
        go_wp2_with fail
        refine HR.out.mono ?_
        rintro e w1 ⟨rfl, hb1⟩
        have HB1 := Lib.hid (HB.out.trans (hb1.mono HB.out.size))
        clear hb1
        go_wp2_with fail
        go_ret
        exact ⟨ret_int HF.out.symm, HB1.out⟩
      | false =>
        have HF := Lib.hid (HSUC.out hp)
        rw [hp] at HR
        clear hp HSUC HAT
        generalize xs[k] = x at *
        go_wp2_with fail
        refine HR.out.mono ?_
        rintro e w1 ⟨rfl, hb1⟩
        have HB1 := Lib.hid (HB.out.trans (hb1.mono HB.out.size))
        clear hb1
        go_wp2_with fail
        go_roundw
        case rel => exact ⟨k + 1, by go_num, by omega, HF.out, HB1.out⟩
        case measure => simp [intOf]; omega
    · have hkn' : k = n := by omega
      subst hkn'
      have HF := Lib.hid (fidx_no (p := p) (xs := xs) (by rwa [List.take_of_length_le (by have := HN.out; omega)] at hbef))
      have HB := Lib.hid hb
      clear hbef hb
      go_wp2_with fail
      go_ret
      exact ⟨ret_int HF.out.symm, HB.out⟩

set_option maxRecDepth 100000 in
set_option maxHeartbeats 1000000 in
theorem containsFuncVal {w0 : World} {fid : FuncId} {caps : Array Value} {p : Val → Bool} (A : Option Addr) (c : Nat) (xs : List Val) (w : World) (hT : TestC w0 fid caps Val.vv (fun _ _ => True) p) (hb : Below w0.heap.size w0 w) (hx : Elems 3 Val.cs w (· < w.heap.size) A xs) (hl : xs.length ≤ 1000) :
    Calls Tryz.prog 88 #[.slice A xs.length c, .func (.func fid) #[] caps] w fun e w' => e = .returned (.bool (xs.any p)) ∧ Below w.heap.size w w' := by
  have HI := Lib.hid (indexFuncVal A c xs w hT hb hx hl)
  have HQ : Hid (decide ((0 : Int) ≤ fidx p xs) = xs.any p) := Lib.hid (by
    have h := (fidx_lt p xs).2.2
    cases ha : xs.any p with
    | true => exact decide_eq_true (h.2 ha)
    | false => exact decide_eq_false fun h0 => by have := h.1 h0; rw [ha] at this; cases this)
  clear hT hb hx hl
  generalize xs.length = n at *
  generalize fidx p xs = j at *
  generalize xs.any p = res at *
  go_enter Tryz.func88, Tryz.ntmps88
  go_wp2_with fail
  refine HI.out.mono ?_
  rintro e w1 ⟨rfl, hb1⟩
  have HF := Lib.hid hb1
  clear hb1
  go_wp2_with fail
  go_ret
  exact ⟨ret_bool HQ.out, HF.out⟩

set_option maxRecDepth 100000 in
set_option maxHeartbeats 1000000 in
theorem indexFuncVio {w0 : World} {fid : FuncId} {caps : Array Value} {p : Vio → Bool} (A : Option Addr) (c : Nat) (xs : List Vio) (w : World) (hT : TestC w0 fid caps Vio.vv (fun _ _ => True) p) (hb : Below w0.heap.size w0 w) (hx : Elems 4 Vio.cs w (· < w.heap.size) A xs) (hl : xs.length ≤ 1000) :
    Calls Tryz.prog 51 #[.slice A xs.length c, .func (.func fid) #[] caps] w fun e w' => e = .returned (.int .i64 (fidx p xs)) ∧ Below w.heap.size w w' := by
  have HX := Lib.hid hx
  have HT := Lib.hid hT
  have HB0 := Lib.hid hb
  have hent := hT.ent
  obtain ⟨n, hn⟩ : ∃ n, xs.length = n := ⟨_, rfl⟩
  rw [hn] at hl ⊢
  have HN := Lib.hid hn
  clear hx hn hT hb
  go_enter Tryz.func51, Tryz.ntmps51
  go_wp2_with fail
  go_loopw [8] (fun vi wr => ∃ k : Nat, vi = .int .i64 (k : Int) ∧ k ≤ n ∧ (∀ x ∈ xs.take k, p x = false) ∧ Below w.heap.size w wr) (fun vi _ => n - (intOf vi).toNat)
  case atStart => exact ⟨0, rfl, by omega, (by intro x hx; simp at hx), Below.refl _ _⟩
  case round =>
    obtain ⟨k, rfl, hkn, hbef, hb⟩ := hrel
    by_cases hlt : k < n
    · have hki : k < xs.length := by have := HN.out; omega
      obtain ⟨b, off, rfl, -, p0, p1, p2, p3⟩ := (HX.out.on hb).vio hki
      have HR := Lib.hid (HT.out.run xs[k] wr (HB0.out.trans (hb.mono HB0.out.size)) (trivial))
      have hlt' : (k : Int) < (n : Int) := by omega
      have HSUC : Hid (p xs[k] = false → ∀ x ∈ xs.take (k + 1), p x = false) := Lib.hid fun hp x hx => by
        rw [List.take_succ_eq_append_getElem hki] at hx
        rcases List.mem_append.1 hx with hx | hx
        · exact hbef x hx
        · rw [List.mem_singleton.1 hx]; exact hp
      have HAT : Hid (p xs[k] = true → fidx p xs = (k : Int)) := Lib.hid fun hp => fidx_at hki hp hbef
      have HB := Lib.hid hb
      clear hbef hb
      cases hp : p xs[k] with
      | true =>
        have HF := Lib.hid (HAT.out hp)
        rw [hp] at HR
        clear hp HSUC HAT
        generalize xs[k] = x at *
        go_wp2_with fail
        refine HR.out.mono ?_
        rintro e w1 ⟨rfl, hb1⟩
        have HB1 := Lib.hid (HB.out.trans (hb1.mono HB.out.size))
        clear hb1
        go_wp2_with fail
        go_ret
        exact ⟨ret_int HF.out.symm, HB1.out⟩
      | false =>
        have HF := Lib.hid (HSUC.out hp)
        rw [hp] at HR
        clear hp HSUC HAT
        generalize xs[k] = x at *
        go_wp2_with fail
        refine HR.out.mono ?_
        rintro e w1 ⟨rfl, hb1⟩
        have HB1 := Lib.hid (HB.out.trans (hb1.mono HB.out.size))
        clear hb1
        go_wp2_with fail
        go_roundw
        case rel => exact ⟨k + 1, by go_num, by omega, HF.out, HB1.out⟩
        case measure => simp [intOf]; omega
    · have hkn' : k = n := by omega
      subst hkn'
      have HF := Lib.hid (fidx_no (p := p) (xs := xs) (by rwa [List.take_of_length_le (by have := HN.out; omega)] at hbef))
      have HB := Lib.hid hb
      clear hbef hb
      go_wp2_with fail
      go_ret
      exact ⟨ret_int HF.out.symm, HB.out⟩

set_option maxRecDepth 100000 in
set_option maxHeartbeats 1000000 in
theorem containsFuncVio {w0 : World} {fid : FuncId} {caps : Array Value} {p : Vio → Bool} (A : Option Addr) (c : Nat) (xs : List Vio) (w : World) (hT : TestC w0 fid caps Vio.vv (fun _ _ => True) p) (hb : Below w0.heap.size w0 w) (hx : Elems 4 Vio.cs w (· < w.heap.size) A xs) (hl : xs.length ≤ 1000) :
    Calls Tryz.prog 21 #[.slice A xs.length c, .func (.func fid) #[] caps] w fun e w' => e = .returned (.bool (xs.any p)) ∧ Below w.heap.size w w' := by
  have HI := Lib.hid (indexFuncVio A c xs w hT hb hx hl)
  have HQ : Hid (decide ((0 : Int) ≤ fidx p xs) = xs.any p) := Lib.hid (by
    have h := (fidx_lt p xs).2.2
    cases ha : xs.any p with
    | true => exact decide_eq_true (h.2 ha)
    | false => exact decide_eq_false fun h0 => by have := h.1 h0; rw [ha] at this; cases this)
  clear hT hb hx hl
  generalize xs.length = n at *
  generalize fidx p xs = j at *
  generalize xs.any p = res at *
  go_enter Tryz.func21, Tryz.ntmps21
  go_wp2_with fail
  refine HI.out.mono ?_
  rintro e w1 ⟨rfl, hb1⟩
  have HF := Lib.hid hb1
  clear hb1
  go_wp2_with fail
  go_ret
  exact ⟨ret_bool HQ.out, HF.out⟩
end Go.Proofs.YtefifkleamiabaaGreatDoor

namespace Go.Proofs.YtefifkleamiabaaGreatDoor
open Go.RowKit Go.Sort

set_option maxRecDepth 100000 in
theorem rRef1 (v : Val) (w : World) : Calls Tryz.prog 89 #[v.vv] w fun e w' => e = .returned (.bool (v.kind == 0)) ∧ Below w.heap.size w w' := by
  have HB : Hid (∀ a, Below w.heap.size w (w.alloc a)) := Lib.hid fun a => (Below.refl _ _).alloc (Nat.le_refl _) a
  unfold Val.vv
  go_enter Tryz.func89, Tryz.ntmps89
  go_wp2_with fail
  go_ret
  exact ⟨rfl, HB.out _⟩

/-- The two captured variables and the table that one of them points to. -/
def ClR (B1 B2 tb o : Nat) (t : Tbl) (Ak : Option Addr) (ck : Nat) (W : World) : Prop :=
  W.cell? ⟨B1, 0, none⟩ = some (.pointer (some ⟨tb, o, none⟩)) ∧ W.cell? ⟨B2, 0, none⟩ = some (.slice Ak 1 ck) ∧ W.cell? ⟨tb, o, none⟩ = some (.string t.name) ∧ W.cell? ⟨tb, o + 1, none⟩ = some (.slice t.CA t.cols.length t.cc) ∧ W.cell? ⟨tb, o + 2, none⟩ = some (.slice t.PA t.pk.length t.pc)
theorem ClR.below {B1 B2 tb o : Nat} {t : Tbl} {Ak : Option Addr} {ck : Nat} {W W' : World} (h : ClR B1 B2 tb o t Ak ck W) (h1 : B1 < W.heap.size) (h2 : B2 < W.heap.size) (h3 : tb < W.heap.size) (hb : Below W.heap.size W W') : ClR B1 B2 tb o t Ak ck W' :=
  ⟨(hb.cell (p := ⟨B1, 0, none⟩) h1).trans h.1, (hb.cell (p := ⟨B2, 0, none⟩) h2).trans h.2.1, (hb.cell (p := ⟨tb, o, none⟩) h3).trans h.2.2.1, (hb.cell (p := ⟨tb, o + 1, none⟩) h3).trans h.2.2.2.1, (hb.cell (p := ⟨tb, o + 2, none⟩) h3).trans h.2.2.2.2⟩
/-- Behind KeyOf: Encode, twice. -/
def AcR (B1 B2 tb o : Nat) (t : Tbl) (Ak : Option Addr) (ck kk a : Nat) (w : World) (e : Ending) (w2 : World) : Prop :=
  ∃ A2 c2, e = .returned (.slice A2 1 c2) ∧ ClR B1 B2 tb o t Ak ck w2 ∧ Hid (Calls Tryz.prog 31 #[.slice A2 1 c2] w2 fun e w3 => e = .returned (.string (encK a)) ∧ ClR B1 B2 tb o t Ak ck w3 ∧ Hid (Calls Tryz.prog 31 #[.slice Ak 1 ck] w3 fun e w4 => e = .returned (.string (encK kk)) ∧ ClR B1 B2 tb o t Ak ck w4 ∧ Below w.heap.size w w4))
theorem acR (B1 B2 tb o : Nat) (t : Tbl) (Ak : Option Addr) (ck kk a : Nat) (x : Key) (w : World) (h1 : B1 < w.heap.size) (h2 : B2 < w.heap.size) (h3 : tb < w.heap.size) (hc : ClR B1 B2 tb o t Ak ck w) (ht : TOk (· < w.heap.size) w t) (hx : KOk (· < w.heap.size) w x) (hk : Elems 3 Val.cs w (· < w.heap.size) Ak (ik (kk : Int))) (ha : keyOf t.pk x.row = ik (a : Int)) (ha10 : a < 10) (hk10 : kk < 10) (hp : t.pk.length ≤ 12) (m : Nat) :
    Calls Tryz.prog 25 #[t.val, .slice x.A x.row.length x.c] (w.drewN m) (AcR B1 B2 tb o t Ak ck kk a w) := by
  have hd : Below w.heap.size w (w.drewN m) := below_drewN (Below.refl _ _) m
  refine (keyOfB t x.A x.c x.row (w.drewN m) (ht.on hd) (hx.on hd).el (by omega)).mono ?_
  rintro e w2 ⟨v2, rfl, ho2, hb2⟩
  rw [ha] at ho2
  obtain ⟨A2, c2, rfl, -, -⟩ := ho2.form
  have hb02 := hd.trans (hb2.mono hd.size)
  refine ⟨A2, c2, rfl, hc.below h1 h2 h3 hb02, Lib.hid ?_⟩
  have e2 : Elems 3 Val.cs w2 (· < w2.heap.size) A2 (ik (a : Int)) := (ho2.elems valLay.len rfl).more fun g hg => (Own.lt ho2 g hg).2
  refine (rEncode1 A2 c2 a ha10 w2 e2).mono ?_
  rintro e w3 ⟨rfl, hb3⟩
  have hb03 := hb02.trans (hb3.mono hb02.size)
  refine ⟨rfl, hc.below h1 h2 h3 hb03, Lib.hid ?_⟩
  refine (rEncode1 Ak ck kk hk10 w3 (hk.of fun g hg => ⟨hb03.block g hg, Nat.lt_of_lt_of_le hg hb03.size⟩)).mono ?_
  rintro e w4 ⟨rfl, hb4⟩
  have hb04 := hb03.trans (hb4.mono hb03.size)
  exact ⟨rfl, hc.below h1 h2 h3 hb04, hb04⟩

set_option maxRecDepth 100000 in
set_option maxHeartbeats 8000000 in
theorem rRef2 (B1 B2 tb o : Nat) (t : Tbl) (Ak : Option Addr) (ck kk a : Nat) (x : Key) (w : World) (h1 : B1 < w.heap.size) (h2 : B2 < w.heap.size) (h3 : tb < w.heap.size) (hc : ClR B1 B2 tb o t Ak ck w) (ht : TOk (· < w.heap.size) w t) (hx : KOk (· < w.heap.size) w x) (hk : Elems 3 Val.cs w (· < w.heap.size) Ak (ik (kk : Int))) (ha : keyOf t.pk x.row = ik (a : Int)) (ha10 : a < 10) (hk10 : kk < 10) (hp : t.pk.length ≤ 12) :
    Calls Tryz.prog 91 #[.slice x.A x.row.length x.c, .pointer (some ⟨B1, 0, none⟩), .pointer (some ⟨B2, 0, none⟩)] w fun e w' => e = .returned (.bool (decide (a = kk))) ∧ Below w.heap.size w w' := by
  have HC := Lib.hid (acR B1 B2 tb o t Ak ck kk a x w h1 h2 h3 hc ht hx hk ha ha10 hk10 hp)
  have hq : ((encK a).toList == (encK kk).toList) = decide (a = kk) := by
    by_cases h : a = kk
    · subst h; simp
    · rw [decide_eq_false h, beq_eq_false_iff_ne]
      intro he
      exact h (encK_inj ha10 hk10 (by rw [ByteArray.toList_eq, ByteArray.toList_eq] at he; exact ByteArray.ext (Array.toList_inj.1 he)))
  have HQ := Lib.hid hq
  unfold Tbl.val ClR at *
  have s0 := hc
  clear h1 h2 h3 ht hx ha ha10 hk10 hp hc hq hk
  generalize decide (a = kk) = res at *
  go_enter Tryz.func91, Tryz.ntmps91
  go_upto_region 1 with fail
  go_region_held3 (fun W => W.cell? ⟨B1, 0, none⟩ = some (.pointer (some ⟨tb, o, none⟩)) ∧ W.cell? ⟨B2, 0, none⟩ = some (.slice Ak 1 ck) ∧ W.cell? ⟨tb, o, none⟩ = some (.string t.name) ∧ W.cell? ⟨tb, o + 1, none⟩ = some (.slice t.CA t.cols.length t.cc) ∧ W.cell? ⟨tb, o + 2, none⟩ = some (.slice t.PA t.pk.length t.pc)) (first | exact s0 | exact s4 | exact s3 | exact s2)
    (first
    | (go_at_call 31; refine HK3.out.mono ?_; rintro e w4 ⟨rfl, s4, hb4⟩)
    | (go_at_call 31; refine HK2.out.mono ?_; rintro e w3 ⟨rfl, s3, HK3⟩)
    | (go_at_call 25; refine (HC.out 1).mono ?_; rintro e w2 ⟨A2, c2, rfl, s2, HK2⟩))
  all_goals
    have HF := Lib.hid hb4
    clear hb4 s4
    go_wp2_with fail
    go_ret
    exact ⟨by first | exact ret_bool HQ.out | (rw [← HQ.out]; rfl), HF.out⟩
end Go.Proofs.YtefifkleamiabaaGreatDoor

namespace Go.Proofs.YtefifkleamiabaaGreatDoor
open Go.RowKit Go.Sort

theorem keyOf1 {r : Row} {v : Val} (h : r[1]? = some v) : keyOf [1] r = [v] := by
  obtain ⟨hl, -⟩ := List.getElem?_eq_some_iff.1 h
  have h1 : (1 : Int) < (r.length : Int) := by omega
  simp [keyOf, keyAt, h1, List.getD_eq_getElem?_getD, h]
/-- Null, or a small int. -/
def NS (v : Val) : Prop := v = ⟨0, 0, ⟨#[]⟩⟩ ∨ ∃ x : Nat, x < 8 ∧ v = ⟨1, (x : Int), ⟨#[]⟩⟩
theorem NS.ni {v : Val} (h : NS v) : NI v := by
  rcases h with h | ⟨x, -, h⟩
  · exact .inl h
  · exact .inr ⟨_, h⟩

set_option maxRecDepth 100000 in
set_option maxHeartbeats 8000000 in
theorem rReferences (s : Sc) (A : Option Addr) (c : Nat) (rs : List RelM) (fk : FkM) (i : Nat) (row : Key) (v1 : Val) (w : World) (hs : ScOk (· < w.heap.size) w s) (hin : InOk (· < w.heap.size) w A rs) (hfk : Elems 1 intCs w (· < w.heap.size) fk.A fk.cols) (hrow : KOk (· < w.heap.size) w row) (hc : RefC s rs fk i) (hr1 : row.row[1]? = some v1) (hv : NS v1)
    (hpk : (s.tabs[i]'hc.il).pk = [0]) (hdg : Dig [0] ((rs[i]'hc.ir).rows.map Key.row)) :
    Calls Tryz.prog 49 #[s.v, .slice A rs.length c, fk.val, .slice row.A row.row.length row.c] w fun e w' => e = .returned (.bool (decide (v1.kind = 0) || ((rs[i]'hc.ir).rows.map Key.row).any fun x => decide (dgK [0] x = v1.int.toNat))) ∧ Below w.heap.size w w' := by
  have hil := hc.il
  have hir := hc.ir
  obtain ⟨w1, hw1⟩ : ∃ w1, w1 = (w.alloc (.cells s.cells 27)).alloc (.cells #[.string fk.name, .slice fk.A fk.cols.length fk.c, .string fk.ref] 73) := ⟨_, rfl⟩
  have hb1 : Below w.heap.size w w1 := by rw [hw1]; exact ((Below.refl _ _).alloc (Nat.le_refl _) _).alloc (le_size1 (Nat.le_refl _) _) _
  have hg1 : w1.heap[w.heap.size]? = some (.cells s.cells 27 (0, 0)) := by
    rw [hw1, Below.heap_alloc _ _ _ (by simp)]
    exact heap_alloc_new w _
  have hg2 : w1.heap[w.heap.size + 1]? = some (.cells #[.string fk.name, .slice fk.A fk.cols.length fk.c, .string fk.ref] 73 (0, 0)) := by rw [hw1]; exact alloc2_at w _ _
  have hs1 : w1.heap.size = w.heap.size + 2 := by rw [hw1]; simp
  have HBX : Hid (∀ W, Below w1.heap.size w1 W → (W.cell? ⟨w.heap.size, 0, none⟩ = some (.slice s.TA s.tabs.length s.tc) ∧ W.cell? ⟨w.heap.size, 1, none⟩ = some (.slice s.FA s.fks.length s.fc) ∧ W.cell? ⟨w.heap.size, 2, none⟩ = some (.slice s.NA s.cns.length s.nc)) ∧ W.cell? ⟨w.heap.size + 1, 0, none⟩ = some (.string fk.name) ∧ W.cell? ⟨w.heap.size + 1, 1, none⟩ = some (.slice fk.A fk.cols.length fk.c) ∧ W.cell? ⟨w.heap.size + 1, 2, none⟩ = some (.string fk.ref)) := Lib.hid fun W hW => by
    have h := (hW.block w.heap.size (by omega)).trans hg1
    have h2 := (hW.block (w.heap.size + 1) (by omega)).trans hg2
    exact ⟨⟨cell_of_row _ _ 0 _ _ _ h, cell_of_row _ _ 1 _ _ _ h, cell_of_row _ _ 2 _ _ _ h⟩, cell_of_row _ _ 0 _ _ _ h2, cell_of_row _ _ 1 _ _ _ h2, cell_of_row _ _ 2 _ _ _ h2⟩
  have hlen : fk.cols.length = 1 := by rw [hc.cols]; rfl
  have HPJ : Hid (Calls Tryz.prog 52 #[.slice row.A row.row.length row.c, .slice fk.A fk.cols.length fk.c] w1 fun e w2 => ∃ Ak ck, e = .returned (.slice Ak 1 ck) ∧ Elems 3 Val.cs w2 (· < w2.heap.size) Ak [v1] ∧ Below w1.heap.size w1 w2) := Lib.hid <| by
    refine (projectB row.A row.c row.row fk.A fk.c fk.cols w1 (hrow.on hb1).el (hfk.of fun g hg => ⟨hb1.block g hg, Nat.lt_of_lt_of_le hg hb1.size⟩) (by omega)).mono ?_
    rintro e w2 ⟨v, rfl, ho, hb⟩
    rw [hc.cols, keyOf1 hr1] at ho
    obtain ⟨Ak, ck, rfl, -, -⟩ := ho.form
    exact ⟨Ak, ck, rfl, (ho.elems valLay.len rfl).more fun g hg => (Own.lt ho g hg).2, hb⟩
  obtain ⟨tb, toff, hTA, htb, -⟩ := hs.tabs.tbl hil
  have htb : tb < w.heap.size := htb
  have HFT : Hid (∀ W, Below w.heap.size w W → Calls Tryz.prog 30 #[s.v, .string fk.ref] W fun e w' => e = .returned (.pointer (some ⟨tb, toff + i * 3, none⟩)) ∧ Below W.heap.size W w') := Lib.hid fun W hW => rFindTable s fk.ref i W (hs.on hW) hc.tl hil hc.fi tb toff hTA
  have HRO : Hid (∀ W, Below w.heap.size w W → _) := Lib.hid fun W (hW : Below w.heap.size w W) => rRowsOf s A c rs fk.ref i W (hs.on hW) (hin.on hW).el hc.tl hil hir hc.fi
  have HIN := Lib.hid hin
  have HSC := Lib.hid hs
  have HRL : Hid ((rs[i]'hir).rows.length ≤ 1000 ∧ (s.tabs[i]'hil).pk = [0]) := Lib.hid ⟨hc.rl, hpk⟩
  have HRK : Hid (∀ W, Below w.heap.size w W → RsOk (· < W.heap.size) W (rs[i]'hir).A (rs[i]'hir).rows ∧ TOk (· < W.heap.size) W (s.tabs[i]'hil) ∧ (W.cell? ⟨tb, toff + i * 3, none⟩ = some (.string (s.tabs[i]'hil).name) ∧ W.cell? ⟨tb, toff + i * 3 + 1, none⟩ = some (.slice (s.tabs[i]'hil).CA (s.tabs[i]'hil).cols.length (s.tabs[i]'hil).cc) ∧ W.cell? ⟨tb, toff + i * 3 + 2, none⟩ = some (.slice (s.tabs[i]'hil).PA (s.tabs[i]'hil).pk.length (s.tabs[i]'hil).pc))) := Lib.hid fun W hW => by
    obtain ⟨tb', toff', e, -, p0, p1, p2⟩ := (hs.on hW).tabs.tbl hil
    rw [hTA] at e
    injection e with e
    injection e with e1 e2
    subst e1 e2
    exact ⟨(hin.on hW).rel _ (List.getElem_mem hir), (hs.on hW).tab _ (List.getElem_mem hil), p0, p1, p2⟩
  have HDG := Lib.hid hdg
  have HV := Lib.hid hv
  have HTB := Lib.hid htb
  have HB1 := Lib.hid (And.intro hb1 hs1)
  have HW1 := Lib.hid hw1
  obtain ⟨m, hmm⟩ : ∃ m, rs.length = m := ⟨_, rfl⟩
  obtain ⟨⟨x0, x1, x2⟩, y0, y1, y2⟩ := HBX.out w1 (Below.refl _ _)
  unfold Sc.v Sc.cells at HFT HRO
  unfold Sc.cells at HW1
  unfold Sc.v Sc.cells FkM.val
  rw [hlen] at HW1 HBX HPJ y1 ⊢
  rw [hmm] at HRO ⊢
  generalize (s.tabs[i]'hil) = t at *
  generalize (rs[i]'hir) = r at *
  obtain ⟨rn, rA, rc, rr⟩ := r
  simp only at *
  clear hs hin hfk hrow hc hr1 hv hpk hdg hw1 hb1 hg1 hg2 hs1 hmm hlen htb hTA
  go_enter Tryz.func49, Tryz.ntmps49
  go_upto_region 1 with fail
  rw [← HW1.out]
  go_wp2_with fail
  refine HPJ.out.mono ?_
  rintro e w2 ⟨Ak, ck, rfl, hke, hb2⟩
  obtain ⟨w4, hw4⟩ : ∃ w4, w4 = w2.alloc (.cells #[.slice Ak 1 ck] 48) := ⟨_, rfl⟩
  have hb4 : Below w2.heap.size w2 w4 := by rw [hw4]; exact (Below.refl _ _).alloc (Nat.le_refl _) _
  have hg4 : w4.heap[w2.heap.size]? = some (.cells #[.slice Ak 1 ck] 48 (0, 0)) := by rw [hw4]; exact heap_alloc_new w2 _
  have hs4 : w2.heap.size < w4.heap.size := by rw [hw4]; simp
  have hb14 := hb2.trans (hb4.mono hb2.size)
  have hb04 := HB1.out.1.trans (hb14.mono HB1.out.1.size)
  have hke4 : Elems 3 Val.cs w4 (· < w4.heap.size) Ak [v1] := hke.of fun g hg => ⟨hb4.block g hg, Nat.lt_trans hg hs4⟩
  have k0 := cell_of_row _ _ 0 _ _ _ hg4
  have HCV := Lib.hid (containsFuncVal (fid := 89) (caps := #[]) (p := fun v => v.kind == 0) Ak ck [v1] w4 (w0 := w4) ⟨fun args W => by kernel_rfl, fun x W _ _ => rRef1 x W⟩ (Below.refl _ _) hke4 (by show 1 ≤ 1000; decide))
  have HK4 := Lib.hid (And.intro hke4 (And.intro hg4 (And.intro hs4 (And.intro hb14 hb04))))
  have HW4 := Lib.hid hw4
  clear hke hb2 hw4 hb4 hg4 hs4 hb14 hb04 hke4
  go_upto_region 3 with fail
  rw [← HW4.out]
  go_wp2_with fail
  refine HCV.out.mono ?_
  rintro e w5 ⟨rfl, hb5⟩
  have HB5 := Lib.hid (And.intro (HK4.out.2.2.2.1.trans (hb5.mono HK4.out.2.2.2.1.size)) (And.intro (HK4.out.2.2.2.2.trans (hb5.mono HK4.out.2.2.2.2.size)) hb5))
  clear hb5 x0 x1 x2 y0 y1 y2 k0
  rcases HV.out with hvn | ⟨x, hx8, hvx⟩
  · subst hvn
    rw [show ([(⟨0, 0, ⟨#[]⟩⟩ : Val)].any fun v => v.kind == 0) = true from rfl]
    go_wp2_with fail
    go_ret
    exact ⟨rfl, HB5.out.2.1⟩
  · subst hvx
    rw [show ([(⟨1, (x : Int), ⟨#[]⟩⟩ : Val)].any fun v => v.kind == 0) = false from rfl]
    obtain ⟨⟨x0, x1, x2⟩, y0, y1, y2⟩ := HBX.out w5 HB5.out.1
    go_wp2_with fail
    refine (HFT.out w5 HB5.out.2.1).mono ?_
    rintro e w6 ⟨rfl, hb6⟩
    obtain ⟨w7, hw7⟩ : ∃ w7, w7 = w6.alloc (.cells #[.pointer (some ⟨tb, toff + i * 3, none⟩)] 84) := ⟨_, rfl⟩
    have hb7 : Below w6.heap.size w6 w7 := by rw [hw7]; exact (Below.refl _ _).alloc (Nat.le_refl _) _
    have hg7 : w7.heap[w6.heap.size]? = some (.cells #[.pointer (some ⟨tb, toff + i * 3, none⟩)] 84 (0, 0)) := by rw [hw7]; exact heap_alloc_new w6 _
    have hs7 : w6.heap.size < w7.heap.size := by rw [hw7]; simp
    have hb57 := hb6.trans (hb7.mono hb6.size)
    have hb47 := HB5.out.2.2.trans (hb57.mono HB5.out.2.2.size)
    have HB7 := Lib.hid (And.intro (HB5.out.1.trans (hb57.mono HB5.out.1.size)) (And.intro (HB5.out.2.1.trans (hb57.mono HB5.out.2.1.size)) (And.intro hb47 (And.intro hg7 hs7))))
    have HW7 := Lib.hid hw7
    clear x0 x1 x2 y0 y1 y2 hb6 hw7 hb7 hg7 hs7 hb57 hb47
    obtain ⟨⟨x0, x1, x2⟩, y0, y1, y2⟩ := HBX.out w7 HB7.out.1
    have t0 := cell_of_row _ _ 0 _ _ _ HB7.out.2.2.2.1
    have HCR : Hid (∀ W, Below w7.heap.size w7 W → Calls Tryz.prog 90 #[.slice rA rr.length rc, .func (.func 91) #[] #[.pointer (some ⟨w6.heap.size, 0, none⟩), .pointer (some ⟨w2.heap.size, 0, none⟩)]] W fun e w' => e = .returned (.bool ((rr.map Key.row).any fun y => decide (dgK [0] y = x))) ∧ Below W.heap.size W w') := Lib.hid fun W hW => by
      have hbW0 := HB7.out.2.1.trans (hW.mono HB7.out.2.1.size)
      obtain ⟨hrs, htk, hcl⟩ := HRK.out W hbW0
      have h := containsFuncRow (fid := 91) (caps := #[.pointer (some ⟨w6.heap.size, 0, none⟩), .pointer (some ⟨w2.heap.size, 0, none⟩)]) (p := fun k => decide (dgK [0] k.row = x)) (M := (· ∈ rr)) (w0 := W) rA rc rr W ⟨fun args W => by kernel_rfl, fun y W2 hW2 hy => ?_⟩ (Below.refl _ _) hrs.el (fun y hy => ⟨hrs.row y hy, hy⟩) HRL.out.1
      · rw [List.any_map]
        exact h
      · have hb72 := hW.trans (hW2.mono hW.size)
        have hb02 := HB7.out.2.1.trans (hb72.mono HB7.out.2.1.size)
        have hb42 := HB7.out.2.2.1.trans (hb72.mono HB7.out.2.2.1.size)
        obtain ⟨-, htk2, hcl2⟩ := HRK.out W2 hb02
        have h2k := (hb42.block w2.heap.size HK4.out.2.2.1).trans HK4.out.2.1
        have h6t := (hb72.block w6.heap.size HB7.out.2.2.2.2).trans HB7.out.2.2.2.1
        have hdgy := HDG.out y.row (List.mem_map_of_mem hy.2)
        exact rRef2 w6.heap.size w2.heap.size tb (toff + i * 3) t Ak ck x (dgK [0] y.row) y W2 (Nat.lt_of_lt_of_le HB7.out.2.2.2.2 hb72.size) (Nat.lt_of_lt_of_le HK4.out.2.2.1 hb42.size) (Nat.lt_of_lt_of_le HTB.out hb02.size) ⟨cell_of_row _ _ 0 _ _ _ h6t, cell_of_row _ _ 0 _ _ _ h2k, hcl2⟩ htk2 hy.1 (HK4.out.1.of fun g hg => ⟨hb42.block g hg, Nat.lt_of_lt_of_le hg hb42.size⟩) (by rw [HRL.out.2]; exact hdgy.1) hdgy.2 (by omega) (by rw [HRL.out.2]; decide)
    go_upto_region 5 with fail
    rw [← HW7.out]
    go_wp2_with fail
    refine (HRO.out w7 HB7.out.2.1).mono ?_
    rintro e w8 ⟨rfl, hb8⟩
    have HB8 := Lib.hid hb8
    clear hb8
    go_wp2_with fail
    refine (HCR.out w8 HB8.out).mono ?_
    rintro e w9 ⟨rfl, hb9⟩
    have HF := Lib.hid (HB7.out.2.1.trans ((HB8.out.trans (hb9.mono HB8.out.size)).mono HB7.out.2.1.size))
    clear hb9
    go_wp2_with fail
    go_ret
    exact ⟨ret_bool rfl, HF.out⟩
end Go.Proofs.YtefifkleamiabaaGreatDoor
