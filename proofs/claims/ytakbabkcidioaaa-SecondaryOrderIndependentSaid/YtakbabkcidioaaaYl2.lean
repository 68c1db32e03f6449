/-
  The walk of the law SecondaryOrderIndependent.
-/
import Derived.Test.YtakbabkcidioaaaYl1
import Derived.Deep.RegionLaw
import Derived.Deep.RegionHeld3
namespace Go.Proofs.Ytakbabkcidioaaa
open Go.RowKit Go.Sort

set_option maxRecDepth 100000 in
set_option maxHeartbeats 4000000 in
theorem order_law (A : Option Addr) (c : Nat) (xs : List Int) (w : World) (hx : Elems 1 intCs w (· < w.heap.size) A xs) (hl : xs.length ≤ c) (hcm : c ≤ maxLen) (hok : ∀ x ∈ xs, I64 x) (hsz : xs.length * 8 ≤ reachBytes) :
    Calls Try.prog 3 #[.slice A xs.length c] w fun e w' => e = .returned (.bool true) ∧ Below w.heap.size w w' := by
  have hb : w.heap.size ≤ (w.alloc (.cells #[.int .i64 9] 3)).heap.size := by simp
  have HX := Lib.hid (hx.keep (w' := w.alloc (.cells #[.int .i64 9] 3)) fun k hk => Below.heap_alloc _ _ _ hk)
  have HO := Lib.hid (one_own w 9)
  have HOK : Hid (∀ n ∈ [9] ++ xs, I64 n) := Lib.hid fun n hn => by
    rcases List.mem_append.1 hn with h | h
    · rw [List.mem_singleton.1 h]; unfold I64; omega
    · exact hok n h
  have HLX := Lib.hid (And.intro hl hcm)
  obtain ⟨N, hN⟩ : ∃ N, xs.length = N := ⟨_, rfl⟩
  have hrb : reachBytes ≤ 140737488355320 := by decide
  have H1 : Hid ((([9] : List Int).length + xs.length) * 8 ≤ 140737488355328) := Lib.hid (by simp; omega)
  have H2 : Hid (([9] : List Int).length + xs.length ≤ maxLen) := Lib.hid (by unfold maxLen; simp; omega)
  rw [hN]
  have HN : Hid (N = xs.length) := Lib.hid hN.symm
  clear hx hl hcm hok hsz hN hrb
  go_enter Try.func3, Try.ntmps3
  go_wp2_with (at_builtin; refine wpList_app rfl (.tmp 8) (.tmp 9) _ _ rfl rfl rfl (run_pushs elem_ints intLay _ (w.alloc (.cells #[.int .i64 9] 3)) _ [9] HO.out HX.out HN.out H1.out H2.out hb) ?_; rintro v1 w1 ⟨ho1, hx1⟩)
  have hb1 : Below w.heap.size w w1 := ((Below.refl _ _).alloc (Nat.le_refl _) _).trans (hx1.below (base := w.heap.size) hb (fun g hg => Nat.le_of_eq (Option.some.inj hg)))
  obtain ⟨A1, c1, rfl, hl1, hm1⟩ := ho1.form
  have HTR := Lib.hid (tableRowsW A1 c1 ([9] ++ xs) w1 ((ho1.elems intLay.len rfl).more fun k hk => (ho1.lt k hk).2) hl1 hm1 HOK.out)
  obtain ⟨m, hm⟩ : ∃ m, m = min ([9] ++ xs).length 24 := ⟨_, rfl⟩
  rw [← hm] at HTR
  have hm24 : 0 < m ∧ m ≤ 24 := by rw [hm, List.length_append]; simp; omega
  have HB1 := Lib.hid hb1
  obtain ⟨rows, hrows⟩ : ∃ rows, rows = trF ([9] ++ xs) m := ⟨_, rfl⟩
  have HRW := Lib.hid hrows
  rw [← hrows] at HTR
  have HML : Hid (rows.length = m ∧ 0 < m ∧ m ≤ 24) := Lib.hid ⟨by rw [hrows, trF_len], hm24.1, hm24.2⟩
  have HRG : Hid (∀ (t : Tbl) (cols : List Int), t.cols = iCols → t.pk = [0] → (∀ c ∈ cols, 0 ≤ c ∧ c < 3) → cols.length ≤ 12 → (∀ r ∈ rows, RGood t cols r)) := Lib.hid fun t cols h1 h2 h3 h4 => by rw [hrows]; exact trF_good h1 h2 h3 h4 hm24.2
  have HKN : Hid ((rows.map (keyOf [0])).Nodup) := Lib.hid (by rw [hrows]; exact trF_keys _ _)
  have HREV : Hid (flatX (bldX [0] [1] rows) = flatX (bldX [0] [1] rows.reverse)) := Lib.hid (by rw [hrows]; exact bldX_rev (t := iTbl none none) rfl rfl (by decide) (by decide) hm24.2)
  clear ho1 hx1 hb1 hm hrows hm24 hl1 hm1 H1 H2 HN HO HX
  refine HTR.out.mono ?_
  rintro e w2 ⟨v2, rfl, ks, hT⟩
  obtain ⟨g2, c2, cur2, rfl, hg2, hcur2, hc2a, hc2b, hcs2, hct2⟩ := hT.own.open_ (by
    have h := congrArg List.length hT.rows
    rw [List.length_map, HML.out.1] at h
    have := HML.out.2.1
    omega)
  have hkl : ks.length = m := by
    have h := congrArg List.length hT.rows
    rwa [List.length_map, HML.out.1] at h
  have HT := Lib.hid hT
  have HB2 := Lib.hid (HB1.out.trans (hT.bel.mono HB1.out.size))
  have HKL := Lib.hid hkl
  have HG2 := Lib.hid (And.intro hg2 (And.intro hcur2 (And.intro (Array.getElem?_eq_some_iff.1 hcur2).1 HB1.out.size)))
  rw [hkl]
  clear hT hkl HTR hg2 hcur2 hc2a hc2b hcs2 hct2
  -- the first index
  have HIT := Lib.hid (indexTableW w2)
  go_wp2_with fail
  refine HIT.out.mono ?_
  rintro e w3 ⟨a3, p3, rfl, ht3, hb3⟩
  obtain ⟨W3, hW3⟩ : ∃ W3, W3 = w3.alloc (.cells #[.int .i64 1] 3) := ⟨_, rfl⟩
  have hb3' : Below w3.heap.size w3 W3 := by rw [hW3]; exact (Below.refl _ _).alloc (Nat.le_refl _) _
  have hb23 : Below w2.heap.size w2 W3 := hb3.trans (hb3'.mono hb3.size)
  have HBD : Hid (Calls Try.prog 8 #[(iTbl (some ⟨a3, 0, none⟩) (some ⟨p3, 0, none⟩)).val, .slice (some ⟨w3.heap.size, 0, none⟩) 1 1, .slice (some ⟨g2, 0, none⟩) m c2] W3 (BdPost W3 [1] rows)) := Lib.hid
    (buildLaw (a := a3) (p := p3) (some ⟨w3.heap.size, 0, none⟩) 1 [1] (some ⟨g2, 0, none⟩) c2 m ks rows W3 ((ht3.more fun g hg => hg.2).on hb3') (by rw [hW3]; exact ((one_own w3 1).elems intLay.len rfl).more fun g hg => ((one_own w3 1).lt g hg).2) (by decide) HKL.out (by decide) (by decide) (by decide)
      (((HT.out.own.elems keyLay.len rfl).more fun g hg => (Own.lt HT.out.own g hg).2).on hb23) (fun k hk => ((HT.out.el k hk).el.more fun g hg => hg.2.1).on hb23) HT.out.rows (HRG.out _ _ rfl rfl (by decide) (by decide)) HKN.out (by rw [HML.out.1]; exact HML.out.2.2))
  have HB23 := Lib.hid hb23
  have HW3 := Lib.hid hW3
  clear ht3 hb3 hW3 hb3' hb23 HIT
  unfold iTbl Tbl.val at HBD ⊢
  simp only at HBD ⊢
  rw [show iCols.length = 3 from rfl, show ([0] : List Int).length = 1 from rfl] at HBD ⊢
  go_wp2_with fail
  rw [← HW3.out]
  refine HBD.out.mono ?_
  rintro e w5 ⟨x, rfl, hX, hb5⟩
  have HB25 := Lib.hid (HB23.out.trans (hb5.mono HB23.out.size))
  obtain ⟨W6, hW6⟩ : ∃ W6, W6 = w5.alloc (.cells x.cells 30) := ⟨_, rfl⟩
  have hb6 : Below w5.heap.size w5 W6 := by rw [hW6]; exact (Below.refl _ _).alloc (Nat.le_refl _) _
  have hg6 : W6.heap[w5.heap.size]? = some (.cells x.cells 30 (0, 0)) := by rw [hW6]; exact heap_alloc_new w5 _
  have hs6 : W6.heap.size = w5.heap.size + 1 := by rw [hW6]; simp
  have HX6 : Hid (Bt (fun g => w2.heap.size ≤ g ∧ g < w5.heap.size) W6 x [1] rows) := Lib.hid ((hX.keep (Keeps.of_below hb6 fun _ h => h.2)) fun k hk => ⟨Nat.le_trans HB23.out.size hk.1, hk.2⟩)
  have hb26 : Below w2.heap.size w2 W6 := HB25.out.trans (hb6.mono HB25.out.size)
  have HOW := Lib.hid (HT.out.own.below hb26)
  have HRV := Lib.hid (reverseK g2 m c2 w1.heap.size ks W6 (by have h := HOW.out; rwa [HKL.out] at h) HKL.out.symm (by have := HML.out; omega))
  have HB26 := Lib.hid hb26
  have HG6 := Lib.hid (And.intro hg6 hs6)
  have HW6 := Lib.hid hW6
  clear hX hb5 hb6 hg6 hs6 hb26 hW6 HBD HW3
  have HXV : Hid (∃ y, y = x) := Lib.hid ⟨x, rfl⟩
  obtain ⟨x', hx'⟩ := HXV.out
  have HXX := Lib.hid hx'
  clear hx' HXV
  rw [← HXX.out] at HX6
  obtain ⟨⟨xn, xCA, xcc, xtc, xPA, xpc, xpk⟩, xXA, xxc, xcols, xEA, xec, xents⟩ := x
  unfold Ix.val
  unfold Ix.cells at HW6 HG6 ⊢
  simp only at HW6 HG6 ⊢
  go_upto_region 3 with fail
  rw [← HW6.out]
  go_wp2_with fail
  refine HRV.out.mono ?_
  rintro e w7 ⟨rfl, ho7, hb7, hoff7, hsz7⟩
  have hgo : ∀ g, w2.heap.size ≤ g → g ≠ g2 := fun g hg e => by have := HG2.out.2.2.1; omega
  have HW2 : Hid (w2.heap.size ≤ w5.heap.size ∧ w5.heap.size < w7.heap.size) := Lib.hid ⟨HB25.out.size, by have := HG6.out.2; omega⟩
  have HX7 : Hid (Bt (fun g => w2.heap.size ≤ g ∧ g < w5.heap.size) w7 x' [1] rows) := Lib.hid (HX6.out.keep (fun g hg => hoff7 g (hgo g hg.1)) fun _ h => h)
  have HG7 := Lib.hid ((hoff7 w5.heap.size (hgo _ HW2.out.1)).trans HG6.out.1)
  have HB7 := Lib.hid ((HB2.out.trans (HB26.out.mono HB2.out.size)).trans (hb7.mono HG2.out.2.2.2))
  have HO7 := Lib.hid ho7
  have HK7 : Hid (∀ k ∈ ks, Elems 3 Val.cs w7 (· < w7.heap.size) k.A k.row) := Lib.hid fun k hk => by
    have h1 := ((HT.out.el k hk).el.keep (Keeps.of_below HB26.out fun _ h => h.2.1)).keep (w' := w7) (fun g hg => hoff7 g fun e => hg.2.2 (by rw [e]; rfl))
    exact h1.more fun g hg => by have := HW2.out; omega
  clear hgo ho7 hb7 hoff7 hsz7 HRV HX6 HG6 HB26 HOW HW6
  have HIT := Lib.hid (indexTableW w7)
  go_wp2_with fail
  refine HIT.out.mono ?_
  rintro e w8 ⟨a8, p8, rfl, ht8, hb8⟩
  obtain ⟨W8, hW8⟩ : ∃ W8, W8 = w8.alloc (.cells #[.int .i64 1] 3) := ⟨_, rfl⟩
  have hb8' : Below w8.heap.size w8 W8 := by rw [hW8]; exact (Below.refl _ _).alloc (Nat.le_refl _) _
  have hb78 : Below w7.heap.size w7 W8 := hb8.trans (hb8'.mono hb8.size)
  have HBD : Hid (Calls Try.prog 8 #[(iTbl (some ⟨a8, 0, none⟩) (some ⟨p8, 0, none⟩)).val, .slice (some ⟨w8.heap.size, 0, none⟩) 1 1, .slice (some ⟨g2, 0, none⟩) m c2] W8 (BdPost W8 [1] rows.reverse)) := Lib.hid
    (buildLaw (a := a8) (p := p8) (some ⟨w8.heap.size, 0, none⟩) 1 [1] (some ⟨g2, 0, none⟩) c2 m ks.reverse rows.reverse W8 ((ht8.more fun g hg => hg.2).on hb8') (by rw [hW8]; exact ((one_own w8 1).elems intLay.len rfl).more fun g hg => ((one_own w8 1).lt g hg).2) (by decide) (by rw [List.length_reverse]; exact HKL.out) (by decide) (by decide) (by decide)
      (((HO7.out.elems keyLay.len rfl).more fun g hg => (Own.lt HO7.out g hg).2).on hb78) (fun k hk => (HK7.out k (List.mem_reverse.1 hk)).on hb78) (by rw [List.map_reverse, HT.out.rows]) (fun r hr => HRG.out _ _ rfl rfl (by decide) (by decide) r (List.mem_reverse.1 hr)) (by rw [List.map_reverse]; exact nodup_rev HKN.out) (by rw [List.length_reverse, HML.out.1]; exact HML.out.2.2))
  have HB78 := Lib.hid hb78
  have HW8 := Lib.hid hW8
  clear ht8 hb8 hW8 hb8' hb78 HIT
  unfold iTbl Tbl.val at HBD ⊢
  simp only at HBD ⊢
  rw [show iCols.length = 3 from rfl, show ([0] : List Int).length = 1 from rfl] at HBD ⊢
  go_wp2_with fail
  rw [← HW8.out]
  refine HBD.out.mono ?_
  rintro e w9 ⟨y, rfl, hY, hb9⟩
  have HB79 := Lib.hid (HB78.out.trans (hb9.mono HB78.out.size))
  obtain ⟨W, hW⟩ : ∃ W, W = w9.alloc (.cells y.cells 30) := ⟨_, rfl⟩
  have hb10 : Below w9.heap.size w9 W := by rw [hW]; exact (Below.refl _ _).alloc (Nat.le_refl _) _
  have hb7W : Below w7.heap.size w7 W := HB79.out.trans (hb10.mono HB79.out.size)
  have hq : Bxs W w5.heap.size w9.heap.size x' y := ⟨(hb7W.block _ HW2.out.2).trans (by rw [HXX.out]; exact HG7.out), by rw [hW]; exact heap_alloc_new w9 _⟩
  have hXW : Bt (· < W.heap.size) W x' [1] rows := HX7.out.keep (Keeps.of_below hb7W fun _ h => by have := HW2.out.2; omega) fun g hg => by have := HW2.out.2; have := hb7W.size; omega
  have hYW : Bt (· < W.heap.size) W y [1] rows.reverse := hY.keep (Keeps.of_below hb10 fun _ h => h.2) fun g hg => Nat.lt_of_lt_of_le hg.2 hb10.size
  have hde : flatX x'.xd = flatX y.xd := by rw [hXW.data, hYW.data]; exact HREV.out
  have hbW : Below w.heap.size w W := HB7.out.trans (hb7W.mono HB7.out.size)
  have hdr : Below W.heap.size W W.drew := (Below.refl _ _).drew
  have HPX := Lib.hid (pairX (hXW.below hdr) (hYW.below hdr) hde (by rw [HML.out.1]; have := HML.out; omega) (by rw [List.length_reverse, HML.out.1]; have := HML.out; omega) (hq.below hdr) hbW.drew)
  have HPY := Lib.hid (pairY (hXW.below hdr) (hYW.below hdr) hde (by rw [HML.out.1]; have := HML.out; omega) (by rw [List.length_reverse, HML.out.1]; have := HML.out; omega) (hq.below hdr) hbW.drew)
  have HBX : Hid (∀ V, Bxs V w5.heap.size w9.heap.size x' y → (V.cell? ⟨w5.heap.size, 0, none⟩ = some (.string x'.t.name) ∧ V.cell? ⟨w5.heap.size, 1, none⟩ = some (.slice x'.t.CA x'.t.cols.length x'.t.cc) ∧ V.cell? ⟨w5.heap.size, 2, none⟩ = some (.slice x'.t.PA x'.t.pk.length x'.t.pc) ∧ V.cell? ⟨w5.heap.size, 3, none⟩ = some (.slice x'.XA x'.cols.length x'.xc) ∧ V.cell? ⟨w5.heap.size, 4, none⟩ = some (.slice x'.EA x'.ents.length x'.ec)) ∧
      (V.cell? ⟨w9.heap.size, 0, none⟩ = some (.string y.t.name) ∧ V.cell? ⟨w9.heap.size, 1, none⟩ = some (.slice y.t.CA y.t.cols.length y.t.cc) ∧ V.cell? ⟨w9.heap.size, 2, none⟩ = some (.slice y.t.PA y.t.pk.length y.t.pc) ∧ V.cell? ⟨w9.heap.size, 3, none⟩ = some (.slice y.XA y.cols.length y.xc) ∧ V.cell? ⟨w9.heap.size, 4, none⟩ = some (.slice y.EA y.ents.length y.ec))) := Lib.hid fun V h => ⟨Ix.box h.x rfl, Ix.box h.y rfl⟩
  obtain ⟨⟨i0, i1, i2, i3, i4⟩, ⟨j0, j1, j2, j3, j4⟩⟩ := HBX.out W hq
  have hpos : (0 : Int) < (x'.ents.length : Int) := by have := hXW.pos (by rw [HML.out.1]; exact HML.out.2.1); omega
  have hposN : 0 < x'.ents.length := by omega
  have hposD : decide (0 < x'.ents.length) = true := by rw [decide_eq_true_iff]; omega
  have hposE : decide ((0 : Int) < (x'.ents.length : Int)) = true := by rw [decide_eq_true_iff]; omega
  have HWW := Lib.hid hW
  clear hY hb9 hW hb10 hb7W hq hXW hYW hde hbW hdr HBD HW8
  rw [HXX.out] at HPX HPY HBX i0 i1 i2 i3 i4 hpos hposN hposD hposE
  clear HX7
  have HYV : Hid (∃ z, z = y) := Lib.hid ⟨y, rfl⟩
  clear HYV
  obtain ⟨⟨yn, yCA, ycc, ytc, yPA, ypc, ypk⟩, yXA, yxc, ycols, yEA, yec, yents⟩ := y
  unfold Ix.val Ix.cells at HPX HPY
  unfold Ix.val
  unfold Ix.cells at HWW ⊢
  simp only at HPX HPY HBX HWW i0 i1 i2 i3 i4 j0 j1 j2 j3 j4 hpos hposN hposD hposE ⊢
  go_upto_region 5 with fail
  rw [← HWW.out]
  clear HWW HRW HREV HKN HRG HML HT HKL HG2 HB1 HB2 HB23 HB25 HB78 HB79 HW2 HG7 HB7 HO7 HK7 HXX HOK HLX hb
  go_region_held3 (fun w' => w'.cell? ⟨w5.heap.size, 0, none⟩ = some (.string xn) ∧ w'.cell? ⟨w5.heap.size, 1, none⟩ = some (.slice xCA xtc.length xcc) ∧ w'.cell? ⟨w5.heap.size, 2, none⟩ = some (.slice xPA xpk.length xpc) ∧ w'.cell? ⟨w5.heap.size, 3, none⟩ = some (.slice xXA xcols.length xxc) ∧ w'.cell? ⟨w5.heap.size, 4, none⟩ = some (.slice xEA xents.length xec) ∧ w'.cell? ⟨w9.heap.size, 0, none⟩ = some (.string yn) ∧ w'.cell? ⟨w9.heap.size, 1, none⟩ = some (.slice yCA ytc.length ycc) ∧ w'.cell? ⟨w9.heap.size, 2, none⟩ = some (.slice yPA ypk.length ypc) ∧ w'.cell? ⟨w9.heap.size, 3, none⟩ = some (.slice yXA ycols.length yxc) ∧ w'.cell? ⟨w9.heap.size, 4, none⟩ = some (.slice yEA yents.length yec)) (go_keep) (first
    | (go_at_call 12; (with_reducible refine HPX.out.mono ?_); rintro e v1 ⟨A6, n6, c6, rfl, hq1, HP2⟩; obtain ⟨⟨k0, k1, k2, k3, k4⟩, ⟨l0, l1, l2, l3, l4⟩⟩ := HBX.out v1 hq1; clear HPX HPY)
    | (go_at_call 12; (with_reducible refine HPY.out.mono ?_); rintro e v1 ⟨A6, n6, c6, rfl, hq1, HP2⟩; obtain ⟨⟨k0, k1, k2, k3, k4⟩, ⟨l0, l1, l2, l3, l4⟩⟩ := HBX.out v1 hq1; clear HPX HPY)
    | (go_at_call 12; (with_reducible refine HP2.out.mono ?_); rintro e v2 ⟨A7, n7, c7, rfl, hq2, HP3⟩; obtain ⟨⟨m0, m1, m2, m3, m4⟩, ⟨o0, o1, o2, o3, o4⟩⟩ := HBX.out v2 hq2; clear HP2)
    | (go_at_call 11; (with_reducible refine HP3.out.mono ?_); rintro e v3 ⟨rfl, hbf, hq3⟩; have HF := Lib.hid hbf; clear hbf HP3; obtain ⟨⟨p0, p1, p2, p3, p4⟩, ⟨r0, r1, r2, r3, r4⟩⟩ := HBX.out v3 hq3))
  all_goals
    go_wp2_with fail
    go_ret
    exact ⟨rfl, HF.out⟩
end Go.Proofs.Ytakbabkcidioaaa
