/-
  The walk of the law SecondaryDeleteInvertsInsert.
-/
import Derived.Test.YtakbabkcidioaaaYw0
import Derived.Deep.RegionHeld3
namespace Go.Proofs.Ytakbabkcidioaaa
open Go.RowKit Go.Sort

set_option maxRecDepth 100000 in
set_option maxHeartbeats 8000000 in
theorem delins_law (A : Option Addr) (c : Nat) (xs : List Int) (n : Int) (w : World) (hx : Elems 1 intCs w (· < w.heap.size) A xs) (hl : xs.length ≤ c) (hcm : c ≤ maxLen) (hok : ∀ x ∈ xs, I64 x) (hn : I64 n) :
    Calls Try.prog 6 #[.slice A xs.length c, .int .i64 n] w fun e w' => e = .returned (.bool true) ∧ Below w.heap.size w w' := by
  obtain ⟨m, hm⟩ : ∃ m, m = min xs.length 20 := ⟨_, rfl⟩
  have hmin : min (xs.length : Int) 20 = (m : Int) := by omega
  have hm20 : m ≤ 20 := by omega
  have hml : (xs.take m).length = m := by rw [List.length_take]; omega
  have HTR := Lib.hid (tableRowsW A c (xs.take m) w (hx.take m) (by omega) hcm (fun k hk => hok k (List.mem_of_mem_take hk)))
  rw [hml, show min m 24 = m from by omega] at HTR
  obtain ⟨rows, hrows⟩ : ∃ rows, rows = trF (xs.take m) m := ⟨_, rfl⟩
  rw [← hrows] at HTR
  have HML : Hid (rows.length = m ∧ m ≤ 20) := Lib.hid ⟨by rw [hrows, trF_len], hm20⟩
  have HRG : Hid (∀ (t : Tbl), t.cols = iCols → t.pk = [0] → (∀ r ∈ rows, RGood t [1, 2] r)) := Lib.hid fun t h1 h2 => by rw [hrows]; exact trF_good h1 h2 (by decide) (by decide) (by omega)
  have HKN : Hid ((rows.map (keyOf [0])).Nodup) := Lib.hid (by rw [hrows]; exact trF_keys _ _)
  have HNW : Hid (∀ p ∈ flatX (bldX [0] [1, 2] rows), p.2 ≠ keyOf [0] (trow 900 n)) := Lib.hid (by rw [hrows]; exact new_key (by omega))
  have HN := Lib.hid hn
  have hmc : m ≤ c := by omega
  have hm0 : (0 : Int) ≤ (m : Int) := by omega
  have hmc' : (m : Int) ≤ (c : Int) := by omega
  unfold maxLen at hcm
  generalize xs.length = N at *
  clear hx hok hrows hm hml hn
  go_enter Try.func6, Try.ntmps6
  go_wp2_with fail
  refine HTR.out.mono ?_
  rintro e w2 ⟨v2, rfl, ks, hT⟩
  have hkl : ks.length = m := by
    have h := congrArg List.length hT.rows
    rwa [List.length_map, HML.out.1] at h
  obtain ⟨A2, c2, rfl, -, -⟩ := hT.own.form
  have HT := Lib.hid hT
  have HKL := Lib.hid hkl
  rw [hkl]
  clear hT hkl HTR
  -- the index
  have HIT := Lib.hid (indexTableW w2)
  go_wp2_with fail
  refine HIT.out.mono ?_
  rintro e w3 ⟨a3, p3, rfl, ht3, hb3⟩
  obtain ⟨W3, hW3⟩ : ∃ W3, W3 = w3.alloc (.cells #[.int .i64 1, .int .i64 2] 3) := ⟨_, rfl⟩
  have hb3' : Below w3.heap.size w3 W3 := by rw [hW3]; exact (Below.refl _ _).alloc (Nat.le_refl _) _
  have hb23 : Below w2.heap.size w2 W3 := hb3.trans (hb3'.mono hb3.size)
  have HBD : Hid (Calls Try.prog 8 #[(iTbl (some ⟨a3, 0, none⟩) (some ⟨p3, 0, none⟩)).val, .slice (some ⟨w3.heap.size, 0, none⟩) 2 2, .slice A2 m c2] W3 (BdPost W3 [1, 2] rows)) := Lib.hid
    (buildLaw (a := a3) (p := p3) (some ⟨w3.heap.size, 0, none⟩) 2 [1, 2] A2 c2 m ks rows W3 ((ht3.more fun g hg => hg.2).on hb3') (by rw [hW3]; exact ((two_own' w3 1 2).elems intLay.len rfl).more fun g hg => ((two_own' w3 1 2).lt g hg).2) (by decide) HKL.out (by decide) (by decide) (by decide)
      (((HT.out.own.elems keyLay.len rfl).more fun g hg => (Own.lt HT.out.own g hg).2).on hb23) (fun k hk => ((HT.out.el k hk).el.more fun g hg => hg.2.1).on hb23) HT.out.rows (HRG.out _ rfl rfl) HKN.out (by rw [HML.out.1]; have := HML.out.2; omega))
  have HB3 := Lib.hid (HT.out.bel.trans (hb23.mono HT.out.bel.size))
  have HW3 := Lib.hid hW3
  clear ht3 hb3 hW3 hb3' hb23 HIT
  unfold iTbl Tbl.val at HBD ⊢
  simp only at HBD ⊢
  rw [show iCols.length = 3 from rfl, show ([0] : List Int).length = 1 from rfl] at HBD ⊢
  go_wp2_with fail
  rw [← HW3.out]
  refine HBD.out.mono ?_
  rintro e w5 ⟨x, rfl, hX, hb5⟩
  obtain ⟨W6, hW6⟩ : ∃ W6, W6 = w5.alloc (.cells x.cells 30) := ⟨_, rfl⟩
  have hb6 : Below w5.heap.size w5 W6 := by rw [hW6]; exact (Below.refl _ _).alloc (Nat.le_refl _) _
  have hg6 : W6.heap[w5.heap.size]? = some (.cells x.cells 30 (0, 0)) := by rw [hW6]; exact heap_alloc_new w5 _
  have hs6 : W6.heap.size = w5.heap.size + 1 := by rw [hW6]; simp
  have HX6 : Hid (Bt (· < W6.heap.size) W6 x [1, 2] rows) := Lib.hid ((hX.keep (Keeps.of_below hb6 fun _ h => h.2)) fun k hk => by omega)
  have HB6 := Lib.hid (HB3.out.trans ((hb5.trans (hb6.mono hb5.size)).mono HB3.out.size))
  have HG6 := Lib.hid (And.intro hg6 hs6)
  have HW6 := Lib.hid hW6
  -- the other table's row
  have HT2 := Lib.hid (tableRowsW (some ⟨W6.heap.size, 0, none⟩) 1 [n] (W6.alloc (.cells #[.int .i64 n] 3)) (((one_own W6 n).elems intLay.len rfl).more fun g hg => ((one_own W6 n).lt g hg).2) (by show 1 ≤ 1; omega) (by unfold maxLen; omega) (fun k hk => by rw [List.mem_singleton.1 hk]; exact HN.out))
  rw [show ([n] : List Int).length = 1 from rfl, show min 1 24 = 1 from rfl] at HT2
  clear hX hb5 hb6 hg6 hs6 hW6 HBD HW3
  obtain ⟨⟨xn, xCA, xcc, xtc, xPA, xpc, xpk⟩, xXA, xxc, xcols, xEA, xec, xents⟩ := x
  unfold Ix.val
  unfold Ix.cells at HW6 HG6 ⊢
  simp only at HW6 HG6 ⊢
  go_upto_region 3 with fail
  rw [← HW6.out]
  go_wp2_with fail
  refine HT2.out.mono ?_
  rintro e w7 ⟨v7, rfl, ks7, hT7⟩
  obtain ⟨q0, rfl⟩ : ∃ q0, ks7 = [q0] := by
    have h := congrArg List.length hT7.rows
    rw [List.length_map, trF_len] at h
    match ks7, h with
    | [q], _ => exact ⟨q, rfl⟩
  have hr7 : q0.row = trow 0 n := by
    have h := hT7.rows
    rw [show trF [n] 1 = [trow 0 n] from rfl] at h
    injection h with h _
  obtain ⟨g7, c7, cur7, rfl, hg7b, hcur7, -, -, hcs7, hct7⟩ := hT7.own.open_ (by show 0 < 1; omega)
  obtain ⟨b7, o7, e7, -, r7⟩ := (hT7.own.elems keyLay.len rfl).key (k := 0) (by show 0 < 1; omega)
  injection e7 with e7
  injection e7 with e7 e7'
  subst e7 e7'
  rw [show ([q0] : List Key)[0] = q0 from rfl] at r7
  simp only [Nat.zero_add] at r7
  have h3 := (hT7.own3 q0 List.mem_cons_self).1
  have hel7 := (hT7.el q0 List.mem_cons_self).el
  obtain ⟨qA, qc, qr⟩ := q0
  simp only at hr7 h3 r7 hel7
  subst hr7
  rw [show (trow 0 n).length = 3 from rfl] at r7
  obtain ⟨qb, qc', cur, e8, hqb, hcur, hqcl, hqcm, hqs, hqt⟩ := h3.open_ (by show 0 < 3; omega)
  injection e8 with e8 _ e9
  subst e8 e9
  have hW67 : W6.heap.size < (W6.alloc (.cells #[.int .i64 n] 3)).heap.size := by simp
  have hb67 : Below W6.heap.size W6 w7 := ((Below.refl _ _).alloc (Nat.le_refl _) _).trans (hT7.bel.mono (by simp))
  have hqb6 : W6.heap.size ≤ qb := by omega
  have c7 : w7.cell? ⟨qb, 1, none⟩ = some (.int .i64 0) := by
    obtain ⟨b', o', e', -, -, h, -⟩ := hel7.val (k := 0) (by show 0 < 3; omega)
    injection e' with e'
    injection e' with e1 e2
    subst e1 e2
    have h : w7.cell? ⟨qb, 0 + 0 * 3 + 1, none⟩ = some (.int .i64 ((0 : Nat) : Int)) := h
    simpa using h
  have f7 : w7.frozen? ⟨qb, 1, none⟩ = false := frozen_of_row _ _ _ _ _ hcur
  obtain ⟨W8, hW8⟩ : ∃ W8, W8 = w7.setCell ⟨qb, 1, none⟩ (.int .i64 900) := ⟨_, rfl⟩
  have hb68 : Below W6.heap.size W6 W8 := by rw [hW8]; exact hb67.setCell hqb6 _
  have h8 : Elems 3 Val.cs W8 (· < W8.heap.size) (some ⟨qb, 0, none⟩) (trow 900 n) := by
    have ho : Own 3 Val.cs 43 0 W8 (.slice (some ⟨qb, 0, none⟩) 3 qc) (trow 900 n) := by
      rw [hW8]
      refine Own.shut valLay (Nat.zero_le _) (heap_setCell_at hcur _) rfl hqcl hqcm (by simpa using hqs) ?_
      rw [Array.toList_setIfInBounds, List.take_set]
      show (List.take ((trow 0 n).length * 3) cur.toList).set 1 _ = _
      rw [hqt]
      rfl
    exact (ho.elems valLay.len rfl).more fun g hg => (Own.lt ho g hg).2
  have hX8 : Bt (· < W8.heap.size) W8 ⟨⟨xn, xCA, xcc, xtc, xPA, xpc, xpk⟩, xXA, xxc, xcols, xEA, xec, xents⟩ [1, 2] rows := HX6.out.below hb68
  have HIN := Lib.hid (insertW ⟨⟨xn, xCA, xcc, xtc, xPA, xpc, xpk⟩, xXA, xxc, xcols, xEA, xec, xents⟩ (some ⟨qb, 0, none⟩) qc (trow 900 n) W8 hX8.ok hX8.val h8 (trow_ok hX8.tc (by omega) n) (by rw [hX8.pk]; decide) (by rw [hX8.cols]; decide) (fun e he k hk e2 => by
    rw [hX8.pk] at e2
    refine HNW.out (e.vals.row, k.row) ?_ e2
    have hd := hX8.data
    rw [← hd]
    exact mem_flatX.2 ⟨e.xe, List.mem_map_of_mem he, rfl, List.mem_map_of_mem hk⟩))
  rw [show (trow 900 n).length = 3 from rfl, hX8.data, hX8.cols, hX8.pk] at HIN
  have hg8 : W8.heap[w5.heap.size]? = some (.cells #[.string xn, .slice xCA xtc.length xcc, .slice xPA xpk.length xpc, .slice xXA xcols.length xxc, .slice xEA xents.length xec] 30 (0, 0)) := (hb68.block _ (by have := HG6.out.2; omega)).trans HG6.out.1
  have x0 := cell_of_row _ _ 0 _ _ _ hg8
  have x1 := cell_of_row _ _ 1 _ _ _ hg8
  have x2 := cell_of_row _ _ 2 _ _ _ hg8
  have x3 := cell_of_row _ _ 3 _ _ _ hg8
  have x4 := cell_of_row _ _ 4 _ _ _ hg8
  simp only [List.getElem?_toArray, List.getElem?_cons_succ, List.getElem?_cons_zero] at x0 x1 x2 x3 x4
  have HX8 := Lib.hid hX8
  have HR8 := Lib.hid h8
  have HB8 := Lib.hid (HB6.out.trans (hb68.mono HB6.out.size))
  have HG8 := Lib.hid hg8
  have HW8 := Lib.hid hW8
  clear hT7 hg7b hcur7 hcs7 hct7 h3 hel7 hqb hcur hqcl hqcm hqs hqt hW67 hb67 hqb6 hW8 hb68 h8 hX8 hg8 HT2 HX6 HB6 HG6 HW6
  go_upto_region 7 with fail
  rw [← HW8.out]
  go_wp2_with fail
  unfold Ix.val Ix.cells at HIN
  simp only at HIN
  refine HIN.out.mono ?_
  rintro e w9 ⟨y, rfl, hY, hyd, hyc, hyt, hyp, hycap, hb9⟩
  simp only at hyc hyt hyp
  have hxt : xtc = iCols := HX8.out.tc
  have hxp : xpk = [0] := HX8.out.pk
  have hxc : xcols = [1, 2] := HX8.out.cols
  have hsx := HX8.out.val.srt
  rw [HX8.out.data] at hsx
  have hnm : (keyOf [1, 2] (trow 900 n), keyOf [0] (trow 900 n)) ∉ flatX (bldX [0] [1, 2] rows) := fun h => HNW.out _ h rfl
  have hdok : DOk (iTbl none none) [1, 2] (insX (keyOf [1, 2] (trow 900 n)) (keyOf [0] (trow 900 n)) (bldX [0] [1, 2] rows)) :=
    (trF_dok (t := iTbl none none) rfl (HRG.out _ rfl rfl) HKN.out (by rw [HML.out.1]; have := HML.out.2; omega)).ins (vok_of rfl (by decide) (by decide) (by omega) n) (vok_of rfl (by decide) (by decide) (by omega) n) HNW.out (by rw [flen_bldX, HML.out.1]; have := HML.out.2; omega)
  have hyv : XVal y := xval_of (iTab_ok (hyt.trans hxt) (hyp.trans hxp)) (by rw [hyc, hxc]; exact iCol_ok (hyt.trans hxt) (by decide) (by decide) (by decide)) hycap (by rw [hyd, hyc, hxc]; exact hdok.of (hyt.trans hxt) (hyp.trans hxp))
  obtain ⟨W10, hW10⟩ : ∃ W10, W10 = w9.alloc (.cells y.cells 30) := ⟨_, rfl⟩
  have hb10 : Below w9.heap.size w9 W10 := by rw [hW10]; exact (Below.refl _ _).alloc (Nat.le_refl _) _
  have hg10 : W10.heap[w9.heap.size]? = some (.cells y.cells 30 (0, 0)) := by rw [hW10]; exact heap_alloc_new w9 _
  have hs10 : w9.heap.size < W10.heap.size := by rw [hW10]; simp
  have hY10 : IOk (· < W10.heap.size) W10 y := (hY.keep (Keeps.of_below hb10 fun _ h => h.2)).more fun g hg => by omega
  have hirl : (irs y.ents).length = m + 1 := by rw [irs_xd, hyd, insX_flen, flen_bldX, HML.out.1]
  have hYi : Bi W10 y (m + 1) := ⟨hY10, by have := hyv.sz.ents; omega, hirl, by have := HML.out.2; omega⟩
  have hb810 : Below W8.heap.size W8 W10 := hb9.trans (hb10.mono hb9.size)
  have HIR : Hid (Calls Try.prog 12 #[y.val] W10 fun e w' => ∃ A q c, e = .returned (.slice A q c) ∧ q = m + 1 ∧ Below W10.heap.size W10 w') := Lib.hid ((irLaw2 hYi).mono (by
    rintro e w' ⟨A, q, c, rfl, -, hq, hb⟩
    exact ⟨A, q, c, rfl, by rw [← hq, hirl], hb⟩))
  have HDL : Hid (∀ W, Below W10.heap.size W10 W → Calls Try.prog 18 #[y.val, .slice (some ⟨qb, 0, none⟩) 3 qc] W fun e w' => ∃ z, e = .returned (.tuple #[z.val, .int .i64 0]) ∧ Bi w' z m ∧ flatX z.xd = flatX (bldX [0] [1, 2] rows) ∧ Below W.heap.size W w') := Lib.hid fun W hW => by
    have hb8W := hb810.trans (hW.mono hb810.size)
    refine (deleteW y (some ⟨qb, 0, none⟩) qc (trow 900 n) W (hY10.on hW) hyv (HR8.out.on hb8W) (trow_ok (hyt.trans hxt) (by omega) n) (by rw [hyp, hxp]; decide) (by rw [hyc, hxc]; decide) (by
      rw [hyd, hyp, hyc, hxp, hxc]
      exact (mem_insX _ _ _ _).2 (.inl rfl))).mono ?_
    rintro e w' ⟨z, rfl, hZ, hzd, -, -, -, -, hb⟩
    rw [hyd, hyp, hyc, hxp, hxc] at hzd
    have hfl : flatX z.xd = flatX (bldX [0] [1, 2] rows) := by rw [hzd]; exact (del_ins hsx hnm).symm
    have hil : (irs z.ents).length = m := by rw [irs_xd, hfl, flen_bldX, HML.out.1]
    have hzs : SrtX z.xd := by rw [hzd]; exact delX_sorted _ _ (insX_sorted _ _ hsx hnm)
    have hzl : z.ents.length ≤ m := by
      have h1 := hzs.len
      rw [hfl, flen_bldX, HML.out.1] at h1
      have h2 : z.xd.length = z.ents.length := List.length_map _
      omega
    exact ⟨z, rfl, ⟨hZ.more fun g hg => hg.2, by have := HML.out.2; omega, hil, by have := HML.out.2; omega⟩, hfl, hb⟩
  have HYB : Hid (∀ W, Below W10.heap.size W10 W → W.cell? ⟨w9.heap.size, 0, none⟩ = some (.string y.t.name) ∧ W.cell? ⟨w9.heap.size, 1, none⟩ = some (.slice y.t.CA y.t.cols.length y.t.cc) ∧ W.cell? ⟨w9.heap.size, 2, none⟩ = some (.slice y.t.PA y.t.pk.length y.t.pc) ∧ W.cell? ⟨w9.heap.size, 3, none⟩ = some (.slice y.XA y.cols.length y.xc) ∧ W.cell? ⟨w9.heap.size, 4, none⟩ = some (.slice y.EA y.ents.length y.ec)) := Lib.hid fun W hW => Ix.box (w' := W) hg10 (hW.block _ hs10)
  have HB810 := Lib.hid hb810
  have HW10 := Lib.hid hW10
  clear hY hyd hyc hyt hyp hycap hb9 hxt hxp hxc hsx hnm hdok hyv hW10 hb10 hg10 hs10 hY10 hirl hYi hb810 HIN x0 x1 x2 x3 x4 r7 c7 f7 HW8 HR8 HRG HKN HNW HN
  obtain ⟨⟨yn, yCA, ycc, ytc, yPA, ypc, ypk⟩, yXA, yxc, ycols, yEA, yec, yents⟩ := y
  unfold Ix.val Ix.cells at HIR HDL
  unfold Ix.val
  unfold Ix.cells at HW10 ⊢
  simp only at HIR HDL HYB HW10 ⊢
  go_upto_region 8 with fail
  rw [← HW10.out]
  obtain ⟨y0, y1, y2, y3, y4⟩ := HYB.out W10 (Below.refl _ _)
  have hm1 : (m : Int) ≤ 20 := by have := HML.out.2; omega
  go_wp2_with fail
  refine HIR.out.mono ?_
  rintro e w11 ⟨A11, q11, c11, rfl, hq11, hb11⟩
  have hqe : ((q11 : Int) != (m : Int) + 1) = false := by rw [hq11]; simp
  have HB11 := Lib.hid hb11
  clear hb11 hq11 y0 y1 y2 y3 y4 HIR
  obtain ⟨y0, y1, y2, y3, y4⟩ := HYB.out w11 HB11.out
  have HD := Lib.hid (HDL.out w11 HB11.out)
  go_wp2_with fail
  refine HD.out.mono ?_
  rintro e w12 ⟨z, rfl, hZ, hzf, hb12⟩
  clear y0 y1 y2 y3 y4 HD HDL HYB hqe
  obtain ⟨W13, hW13⟩ : ∃ W13, W13 = w12.alloc (.cells z.cells 30) := ⟨_, rfl⟩
  have hb13 : Below w12.heap.size w12 W13 := by rw [hW13]; exact (Below.refl _ _).alloc (Nat.le_refl _) _
  have hb8 : Below W8.heap.size W8 W13 := HB810.out.trans ((HB11.out.trans ((hb12.trans (hb13.mono hb12.size)).mono HB11.out.size)).mono HB810.out.size)
  have hbW : Below w.heap.size w W13 := HB8.out.trans (hb8.mono HB8.out.size)
  have hXi : Bi W13 ⟨⟨xn, xCA, xcc, xtc, xPA, xpc, xpk⟩, xXA, xxc, xcols, xEA, xec, xents⟩ rows.length := (HX8.out.bi (by rw [HML.out.1]; have := HML.out.2; omega)).below hb8
  have hZi : Bi W13 z m := hZ.below hb13
  have hde : flatX (Ix.xd ⟨⟨xn, xCA, xcc, xtc, xPA, xpc, xpk⟩, xXA, xxc, xcols, xEA, xec, xents⟩) = flatX z.xd := by rw [HX8.out.data, hzf]
  have hq : Bxs W13 w5.heap.size w12.heap.size ⟨⟨xn, xCA, xcc, xtc, xPA, xpc, xpk⟩, xXA, xxc, xcols, xEA, xec, xents⟩ z := ⟨(hb8.block _ (Array.getElem?_eq_some_iff.1 HG8.out).1).trans HG8.out, by rw [hW13]; exact heap_alloc_new w12 _⟩
  have hdr : Below W13.heap.size W13 W13.drew := (Below.refl _ _).drew
  have HPX := Lib.hid (pairX2 (hXi.below hdr) (hZi.below hdr) hde (hq.below hdr) hbW.drew)
  have HPY := Lib.hid (pairY2 (hXi.below hdr) (hZi.below hdr) hde (hq.below hdr) hbW.drew)
  have HBX : Hid (∀ V, Bxs V w5.heap.size w12.heap.size ⟨⟨xn, xCA, xcc, xtc, xPA, xpc, xpk⟩, xXA, xxc, xcols, xEA, xec, xents⟩ z → (V.cell? ⟨w5.heap.size, 0, none⟩ = some (.string xn) ∧ V.cell? ⟨w5.heap.size, 1, none⟩ = some (.slice xCA xtc.length xcc) ∧ V.cell? ⟨w5.heap.size, 2, none⟩ = some (.slice xPA xpk.length xpc) ∧ V.cell? ⟨w5.heap.size, 3, none⟩ = some (.slice xXA xcols.length xxc) ∧ V.cell? ⟨w5.heap.size, 4, none⟩ = some (.slice xEA xents.length xec)) ∧
      (V.cell? ⟨w12.heap.size, 0, none⟩ = some (.string z.t.name) ∧ V.cell? ⟨w12.heap.size, 1, none⟩ = some (.slice z.t.CA z.t.cols.length z.t.cc) ∧ V.cell? ⟨w12.heap.size, 2, none⟩ = some (.slice z.t.PA z.t.pk.length z.t.pc) ∧ V.cell? ⟨w12.heap.size, 3, none⟩ = some (.slice z.XA z.cols.length z.xc) ∧ V.cell? ⟨w12.heap.size, 4, none⟩ = some (.slice z.EA z.ents.length z.ec))) := Lib.hid fun V h => ⟨Ix.box h.x rfl, Ix.box h.y rfl⟩
  obtain ⟨⟨i0, i1, i2, i3, i4⟩, ⟨j0, j1, j2, j3, j4⟩⟩ := HBX.out W13 hq
  have HW13 := Lib.hid hW13
  clear hZ hzf hb12 hW13 hb13 hb8 hbW hXi hZi hde hq hdr HB810 HB11 HB8 HX8 HML HG8 HT HKL HB3 HW10
  obtain ⟨⟨zn, zCA, zcc, ztc, zPA, zpc, zpk⟩, zXA, zxc, zcols, zEA, zec, zents⟩ := z
  unfold Ix.val Ix.cells at HPX HPY
  unfold Ix.cells at HW13
  simp only at HPX HPY HBX HW13 j0 j1 j2 j3 j4 ⊢
  go_upto_region 11 with fail
  rw [← HW13.out]
  clear HW13
  go_region_held3 (fun w' => w'.cell? ⟨w5.heap.size, 0, none⟩ = some (.string xn) ∧ w'.cell? ⟨w5.heap.size, 1, none⟩ = some (.slice xCA xtc.length xcc) ∧ w'.cell? ⟨w5.heap.size, 2, none⟩ = some (.slice xPA xpk.length xpc) ∧ w'.cell? ⟨w5.heap.size, 3, none⟩ = some (.slice xXA xcols.length xxc) ∧ w'.cell? ⟨w5.heap.size, 4, none⟩ = some (.slice xEA xents.length xec) ∧ w'.cell? ⟨w12.heap.size, 0, none⟩ = some (.string zn) ∧ w'.cell? ⟨w12.heap.size, 1, none⟩ = some (.slice zCA ztc.length zcc) ∧ w'.cell? ⟨w12.heap.size, 2, none⟩ = some (.slice zPA zpk.length zpc) ∧ w'.cell? ⟨w12.heap.size, 3, none⟩ = some (.slice zXA zcols.length zxc) ∧ w'.cell? ⟨w12.heap.size, 4, none⟩ = some (.slice zEA zents.length zec)) (go_keep) (first
    | (go_at_call 12; (with_reducible refine HPX.out.mono ?_); rintro e v1 ⟨A6, n6, c6, rfl, hq1, HP2⟩; obtain ⟨⟨k0, k1, k2, k3, k4⟩, ⟨l0, l1, l2, l3, l4⟩⟩ := HBX.out v1 hq1; clear HPX HPY)
    | (go_at_call 12; (with_reducible refine HPY.out.mono ?_); rintro e v1 ⟨A6, n6, c6, rfl, hq1, HP2⟩; obtain ⟨⟨k0, k1, k2, k3, k4⟩, ⟨l0, l1, l2, l3, l4⟩⟩ := HBX.out v1 hq1; clear HPX HPY)
    | (go_at_call 12; (with_reducible refine HP2.out.mono ?_); rintro e v2 ⟨A7, n7, c7, rfl, hq2, HP3⟩; obtain ⟨⟨m0, m1, m2, m3, m4⟩, ⟨o0, o1, o2, o3, o4⟩⟩ := HBX.out v2 hq2; clear HP2)
    | (go_at_call 11; (with_reducible refine HP3.out.mono ?_); rintro e v3 ⟨rfl, hbf, hq3⟩; have HF := Lib.hid hbf; clear hbf HP3; obtain ⟨⟨p0, p1, p2, p3, p4⟩, ⟨r0, r1, r2, r3, r4⟩⟩ := HBX.out v3 hq3))
  all_goals
    go_wp2_with fail
    go_ret
    exact ⟨rfl, HF.out⟩
end Go.Proofs.Ytakbabkcidioaaa
