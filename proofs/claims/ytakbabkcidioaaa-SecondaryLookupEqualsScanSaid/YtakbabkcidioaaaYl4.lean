/-
  The walk of the law SecondaryRangeSplits.
-/
import Derived.Test.YtakbabkcidioaaaYl3
namespace Go.Proofs.Ytakbabkcidioaaa
open Go.RowKit Go.Sort

theorem one_val (W : World) (v : Val) : Own 3 Val.cs 43 W.heap.size (W.alloc (.cells #[.int .i64 v.kind, .int .i64 v.int, .string v.text] 43)) (.slice (some ⟨W.heap.size, 0, none⟩) 1 1) [v] :=
  Own.shut valLay (Nat.le_refl _) (heap_alloc_new W _) rfl (Nat.le_refl _) (by decide) rfl rfl
theorem one_valE (W : World) (v : Val) : Elems 3 Val.cs (W.alloc (.cells #[.int .i64 v.kind, .int .i64 v.int, .string v.text] 43)) (· < (W.alloc (.cells #[.int .i64 v.kind, .int .i64 v.int, .string v.text] 43)).heap.size) (some ⟨W.heap.size, 0, none⟩) [v] :=
  ((one_val W v).elems valLay.len rfl).more fun g hg => (Own.lt (one_val W v) g hg).2
/-- What a lookup leaves, by its length. -/
def LnPost (w : World) (L : Nat) (e : Ending) (w' : World) : Prop := ∃ A n c, e = .returned (.tuple #[.slice A n c, .int .i64 0]) ∧ n = L ∧ Below w.heap.size w w'
theorem LkPost.len {w w' : World} {lo hi : Row} {d : XD} {e : Ending} (h : LkPost w lo hi d e w') : LnPost w (lkX lo hi d).length e w' := by
  obtain ⟨v, ks, rfl, ho, hr, -, hb⟩ := h
  obtain ⟨A, c, rfl, -, -⟩ := ho.form
  exact ⟨A, _, c, rfl, by rw [← hr, List.length_map], hb⟩

set_option maxRecDepth 100000 in
set_option maxHeartbeats 8000000 in
theorem range_law (A : Option Addr) (c : Nat) (xs : List Int) (n : Int) (w : World) (hx : Elems 1 intCs w (· < w.heap.size) A xs) (_hl : xs.length ≤ c) (_hcm : c ≤ maxLen) (hok : ∀ x ∈ xs, I64 x) (hsz : xs.length * 8 ≤ reachBytes) (hn : I64 n) :
    Calls Try.prog 5 #[.slice A xs.length c, .int .i64 n] w fun e w' => e = .returned (.bool true) ∧ Below w.heap.size w w' := by
  have HIT := Lib.hid (indexTableW w)
  have HX := Lib.hid hx
  have HOK : Hid (∀ k ∈ [n] ++ xs, I64 k) := Lib.hid fun k hk => by
    rcases List.mem_append.1 hk with h | h
    · rw [List.mem_singleton.1 h]; exact hn
    · exact hok k h
  obtain ⟨N, hN⟩ : ∃ N, xs.length = N := ⟨_, rfl⟩
  have hrb : reachBytes ≤ 140737488355320 := by decide
  have H1 : Hid ((([n] : List Int).length + xs.length) * 8 ≤ 140737488355328) := Lib.hid (by simp; omega)
  have H2 : Hid (([n] : List Int).length + xs.length ≤ maxLen) := Lib.hid (by unfold maxLen; simp; omega)
  rw [hN]
  have HN : Hid (N = xs.length) := Lib.hid hN.symm
  clear hx hok hsz hN hrb hn
  go_enter Try.func5, Try.ntmps5
  go_wp2_with fail
  refine HIT.out.mono ?_
  rintro e w1 ⟨a, p, rfl, ht, hb1⟩
  have HB1 := Lib.hid hb1
  have HT1 := Lib.hid ht
  have HXA := Lib.hid ((HX.out.on hb1).keep (w' := w1.alloc (.cells #[.int .i64 n] 3)) fun k hk => Below.heap_alloc _ _ _ hk)
  have hb : w1.heap.size ≤ (w1.alloc (.cells #[.int .i64 n] 3)).heap.size := by simp
  have HO := Lib.hid (one_own w1 n)
  clear hb1 ht HIT HX
  unfold iTbl Tbl.val
  simp only
  rw [show iCols.length = 3 from rfl, show ([0] : List Int).length = 1 from rfl]
  go_wp2_with (at_builtin; refine wpList_app rfl (.tmp 18) (.tmp 19) _ _ rfl rfl rfl (run_pushs elem_ints intLay _ (w1.alloc (.cells #[.int .i64 n] 3)) _ [n] HO.out HXA.out HN.out H1.out H2.out hb) ?_; rintro v2 w2 ⟨ho2, hx2⟩)
  have hb2 : Below w1.heap.size w1 w2 := ((Below.refl _ _).alloc (Nat.le_refl _) _).trans (hx2.below (base := w1.heap.size) hb (fun g hg => Nat.le_of_eq (Option.some.inj hg)))
  obtain ⟨A2, c2, rfl, hl2, hm2⟩ := ho2.form
  have HTR := Lib.hid (tableRowsW A2 c2 ([n] ++ xs) w2 ((ho2.elems intLay.len rfl).more fun k hk => (ho2.lt k hk).2) hl2 hm2 HOK.out)
  obtain ⟨m, hm⟩ : ∃ m, m = min ([n] ++ xs).length 24 := ⟨_, rfl⟩
  rw [← hm] at HTR
  have hm24 : 0 < m ∧ m ≤ 24 := by rw [hm, List.length_append]; simp; omega
  have HB2 := Lib.hid (HB1.out.trans (hb2.mono HB1.out.size))
  have HT2 := Lib.hid ((HT1.out.more fun g hg => hg.2).on hb2)
  have htr0 : trow 0 n ∈ trF ([n] ++ xs) m := List.mem_map.2 ⟨0, List.mem_range.2 hm24.1, rfl⟩
  have HCT := Lib.hid (range_counts ([n] ++ xs) m n ⟨0, htr0⟩)
  obtain ⟨rows, hrows⟩ : ∃ rows, rows = trF ([n] ++ xs) m := ⟨_, rfl⟩
  rw [← hrows] at HTR HCT
  have HML : Hid (rows.length = m ∧ 0 < m ∧ m ≤ 24) := Lib.hid ⟨by rw [hrows, trF_len], hm24.1, hm24.2⟩
  have HR0 : Hid (rows[0]? = some (trow 0 n)) := Lib.hid (by
    rw [hrows]
    unfold trF
    rw [List.getElem?_map, List.getElem?_range hm24.1]
    rfl)
  have HRG : Hid (∀ (t : Tbl), t.cols = iCols → t.pk = [0] → (∀ r ∈ rows, RGood t [1] r)) := Lib.hid fun t h1 h2 => by rw [hrows]; exact trF_good h1 h2 (by decide) (by decide) hm24.2
  have HKN : Hid ((rows.map (keyOf [0])).Nodup) := Lib.hid (by rw [hrows]; exact trF_keys _ _)
  clear ho2 hx2 hb2 hm hrows hm24 hl2 hm2 H1 H2 HN HO HXA htr0 HT1 hb
  refine HTR.out.mono ?_
  rintro e w3 ⟨v3, rfl, ks, hT⟩
  have hkl : ks.length = m := by
    have h := congrArg List.length hT.rows
    rwa [List.length_map, HML.out.1] at h
  obtain ⟨g3, c3, cur3, rfl, -⟩ := hT.own.open_ (by rw [hkl]; exact HML.out.2.1)
  have HT := Lib.hid hT
  have HB3 := Lib.hid (HB2.out.trans (hT.bel.mono HB2.out.size))
  have HKL := Lib.hid hkl
  rw [hkl]
  have HT3 := Lib.hid (HT2.out.on hT.bel)
  clear hT hkl HTR
  obtain ⟨W5, hW5⟩ : ∃ W5, W5 = (w3.alloc (.cells #[.string ⟨#[97]⟩, .slice (some ⟨a, 0, none⟩) 3 3, .slice (some ⟨p, 0, none⟩) 1 1] 27)).alloc (.cells #[.int .i64 1] 3) := ⟨_, rfl⟩
  have hb35 : Below w3.heap.size w3 W5 := by rw [hW5]; exact ((Below.refl _ _).alloc (Nat.le_refl _) _).alloc (le_size1 (Nat.le_refl _) _) _
  have HBD : Hid (Calls Try.prog 8 #[(iTbl (some ⟨a, 0, none⟩) (some ⟨p, 0, none⟩)).val, .slice (some ⟨w3.heap.size + 1, 0, none⟩) 1 1, .slice (some ⟨g3, 0, none⟩) m c3] W5 (BdPost W5 [1] rows)) := Lib.hid
    (buildLaw (a := a) (p := p) (some ⟨w3.heap.size + 1, 0, none⟩) 1 [1] (some ⟨g3, 0, none⟩) c3 m ks rows W5 (HT3.out.on hb35) (by
        have h := (one_own (w3.alloc (.cells #[.string ⟨#[97]⟩, .slice (some ⟨a, 0, none⟩) 3 3, .slice (some ⟨p, 0, none⟩) 1 1] 27)) 1)
        have h2 := (h.elems intLay.len rfl).more fun g hg => (h.lt g hg).2
        rw [hW5, ← size1 w3 (.cells #[.string ⟨#[97]⟩, .slice (some ⟨a, 0, none⟩) 3 3, .slice (some ⟨p, 0, none⟩) 1 1] 27)]
        exact h2) (by decide) HKL.out (by decide) (by decide) (by decide)
      (((HT.out.own.elems keyLay.len rfl).more fun g hg => (Own.lt HT.out.own g hg).2).on hb35) (fun k hk => ((HT.out.el k hk).el.more fun g hg => hg.2.1).on hb35) HT.out.rows (HRG.out _ rfl rfl) HKN.out (by rw [HML.out.1]; exact HML.out.2.2))
  have HB35 := Lib.hid hb35
  have HW5 := Lib.hid hW5
  clear hb35 hW5 HT2
  unfold iTbl Tbl.val at HBD
  simp only at HBD
  rw [show iCols.length = 3 from rfl, show ([0] : List Int).length = 1 from rfl] at HBD
  go_wp2_with fail
  rw [← HW5.out]
  refine HBD.out.mono ?_
  rintro e w6 ⟨x, rfl, hX, hb6⟩
  have HB36 := Lib.hid (HB35.out.trans (hb6.mono HB35.out.size))
  obtain ⟨W7, hW7⟩ : ∃ W7, W7 = w6.alloc (.cells x.cells 30) := ⟨_, rfl⟩
  have hb7 : Below w6.heap.size w6 W7 := by rw [hW7]; exact (Below.refl _ _).alloc (Nat.le_refl _) _
  have hg7 : W7.heap[w6.heap.size]? = some (.cells x.cells 30 (0, 0)) := by rw [hW7]; exact heap_alloc_new w6 _
  have hs7 : w6.heap.size < W7.heap.size := by rw [hW7]; simp
  have hX7 : Bt (· < W7.heap.size) W7 x [1] rows := (hX.keep (Keeps.of_below hb7 fun _ h => h.2)) fun g hg => by omega
  have hb37 : Below w3.heap.size w3 W7 := HB36.out.trans (hb7.mono HB36.out.size)
  have HXB : Hid (∀ W, Below W7.heap.size W7 W → W.cell? ⟨w6.heap.size, 0, none⟩ = some (.string x.t.name) ∧ W.cell? ⟨w6.heap.size, 1, none⟩ = some (.slice x.t.CA x.t.cols.length x.t.cc) ∧ W.cell? ⟨w6.heap.size, 2, none⟩ = some (.slice x.t.PA x.t.pk.length x.t.pc) ∧ W.cell? ⟨w6.heap.size, 3, none⟩ = some (.slice x.XA x.cols.length x.xc) ∧ W.cell? ⟨w6.heap.size, 4, none⟩ = some (.slice x.EA x.ents.length x.ec)) := Lib.hid fun W hW => Ix.box (w' := W) hg7 (hW.block _ hs7)
  -- the first row's second value
  have hk0 : 0 < ks.length := by have := HKL.out; have := HML.out; omega
  have hrow0 : ks[0].row = trow 0 n := by
    have h := HR0.out
    rw [← HT.out.rows, List.getElem?_map, List.getElem?_eq_getElem hk0] at h
    exact Option.some.inj h
  obtain ⟨_, _, eg, -, r0⟩ := (((HT.out.own.elems keyLay.len rfl).more fun g hg => (Own.lt HT.out.own g hg).2).on hb37).key hk0
  injection eg with eg
  injection eg with eg1 eg2
  subst eg1 eg2
  have hel0 := ((HT.out.el _ (List.getElem_mem hk0)).el.more fun g hg => hg.2.1).on hb37
  rw [hrow0] at hel0 r0
  generalize ks[0] = q0 at *
  obtain ⟨qA, qc, qr⟩ := q0
  simp only at r0 hel0
  obtain ⟨qb, qo, rfl, -, s0, s1, s2⟩ := hel0.val (k := 1) (by show 1 < 3; omega)
  rw [show (trow 0 n)[1]'(by show 1 < 3; omega) = genT n from rfl] at s0 s1 s2
  rw [show (trow 0 n).length = 3 from rfl] at r0
  obtain ⟨gv, hgv⟩ : ∃ gv, gv = genT n := ⟨_, rfl⟩
  rw [← hgv] at s0 s1 s2 HCT
  have HVK : Hid (∀ t : Tbl, t.cols = iCols → VOk t [1] [gv]) := Lib.hid fun t ht => by
    rw [hgv]
    exact vok_of ht (cols := [1]) (by decide) (by decide) (i := 0) (by omega) n
  clear hgv
  obtain ⟨W8, hW8⟩ : ∃ W8, W8 = W7.alloc (.cells #[.int .i64 gv.kind, .int .i64 gv.int, .string gv.text] 43) := ⟨_, rfl⟩
  have hb8 : Below W7.heap.size W7 W8 := by rw [hW8]; exact (Below.refl _ _).alloc (Nat.le_refl _) _
  have HEV : Hid (Elems 3 Val.cs W8 (· < W8.heap.size) (some ⟨W7.heap.size, 0, none⟩) [gv]) := Lib.hid (by rw [hW8]; exact one_valE W7 gv)
  obtain ⟨W9, hW9⟩ : ∃ W9, W9 = W8.alloc (.cells #[.int .i64 0, .int .i64 0, .string ⟨#[]⟩] 43) := ⟨_, rfl⟩
  have hb9 : Below W8.heap.size W8 W9 := by rw [hW9]; exact (Below.refl _ _).alloc (Nat.le_refl _) _
  have hel9 : Elems 3 Val.cs W9 (· < W9.heap.size) (some ⟨W8.heap.size, 0, none⟩) loR := by rw [hW9]; exact one_valE W8 ⟨0, 0, ⟨#[]⟩⟩
  have hb79 : Below W7.heap.size W7 W9 := hb8.trans (hb9.mono hb8.size)
  have HLR := Lib.hid ((lookupRangeW x (some ⟨W8.heap.size, 0, none⟩) 1 loR (some ⟨W7.heap.size, 0, none⟩) 1 [gv] W9 (hX7.below hb79).ok hX7.val hel9 (HEV.out.on hb9) (by rw [hX7.cols]; exact vok_lo hX7.tc) (by rw [hX7.cols]; exact HVK.out _ hX7.tc) (by rw [hX7.cols]; decide)).mono fun e w' h => h.len)
  have HX7 := Lib.hid hX7
  have HB79 := Lib.hid hb79
  have HB89 := Lib.hid hb9
  have HB7 := Lib.hid ((HB3.out.trans (hb37.mono HB3.out.size)))
  obtain ⟨x0, x1, x2, x3, x4⟩ := HXB.out W8 hb8
  have HW7 := Lib.hid hW7
  have HW8 := Lib.hid hW8
  have HW9 := Lib.hid hW9
  have hm0 : (0 : Int) < (m : Int) := by have := HML.out; omega
  have hm1 : 0 < m := HML.out.2.1
  clear hX hb6 hW7 hb7 hg7 hs7 hX7 hb37 hk0 hrow0 hel0 hW8 hb8 hW9 hb9 hel9 hb79 HBD HW5
  rw [HX7.out.data] at HLR
  obtain ⟨l1, hl1⟩ : ∃ l1, l1 = (lkX loR [gv] (bldX [0] [1] rows)).length := ⟨_, rfl⟩
  obtain ⟨l2, hl2⟩ : ∃ l2, l2 = (lkX [gv] hiR (bldX [0] [1] rows)).length := ⟨_, rfl⟩
  obtain ⟨l3, hl3⟩ : ∃ l3, l3 = (lkX [gv] [gv] (bldX [0] [1] rows)).length := ⟨_, rfl⟩
  rw [← hl1, ← hl2, ← hl3] at HCT
  rw [← hl1] at HLR
  have HL2 := Lib.hid hl2
  have HL3 := Lib.hid hl3
  clear hl1 hl2 hl3
  have HWP : Hid (∀ W, Below W9.heap.size W9 W → Below W7.heap.size W7 W ∧ Elems 3 Val.cs W (· < W.heap.size) (some ⟨W7.heap.size, 0, none⟩) [gv]) := Lib.hid fun W hW => ⟨HB79.out.trans (hW.mono HB79.out.size), (HEV.out.on HB89.out).on hW⟩
  have HXD : Hid (x.xd = bldX [0] [1] rows ∧ XVal x ∧ x.cols = [1] ∧ x.t.cols = iCols) := Lib.hid ⟨HX7.out.data, HX7.out.val, HX7.out.cols, HX7.out.tc⟩
  have HR2 : Hid (∀ W, Below W9.heap.size W9 W → Calls Try.prog 16 #[x.val, .slice (some ⟨W7.heap.size, 0, none⟩) 1 1, .slice (some ⟨W.heap.size, 0, none⟩) 1 1] (W.alloc (.cells #[.int .i64 3, .int .i64 0, .string ⟨#[122, 122, 122]⟩] 43)) (LnPost (W.alloc (.cells #[.int .i64 3, .int .i64 0, .string ⟨#[122, 122, 122]⟩] 43)) l2)) := Lib.hid fun W hW => by
    have hba : Below W.heap.size W (W.alloc (.cells #[.int .i64 3, .int .i64 0, .string ⟨#[122, 122, 122]⟩] 43)) := (Below.refl _ _).alloc (Nat.le_refl _) _
    obtain ⟨h7, hv⟩ := HWP.out W hW
    have h := lookupRangeW x (some ⟨W7.heap.size, 0, none⟩) 1 [gv] (some ⟨W.heap.size, 0, none⟩) 1 hiR (W.alloc (.cells #[.int .i64 3, .int .i64 0, .string ⟨#[122, 122, 122]⟩] 43)) ((HX7.out.below h7).below hba).ok HXD.out.2.1 (hv.on hba) (one_valE W ⟨3, 0, ⟨#[122, 122, 122]⟩⟩) (by rw [HXD.out.2.2.1]; exact HVK.out _ HXD.out.2.2.2) (by rw [HXD.out.2.2.1]; exact vok_hi HXD.out.2.2.2) (by rw [HXD.out.2.2.1]; decide)
    rw [HXD.out.1] at h
    rw [HL2.out]
    exact h.mono fun e w' h => h.len
  have HR3 : Hid (∀ W, Below W9.heap.size W9 W → Calls Try.prog 13 #[x.val, .slice (some ⟨W7.heap.size, 0, none⟩) 1 1] W (LnPost W l3)) := Lib.hid fun W hW => by
    obtain ⟨h7, hv⟩ := HWP.out W hW
    have h := lookupW x (some ⟨W7.heap.size, 0, none⟩) 1 [gv] W (HX7.out.below h7).ok HXD.out.2.1 hv (by rw [HXD.out.2.2.1]; exact HVK.out _ HXD.out.2.2.2) (by rw [HXD.out.2.2.1]; decide)
    rw [HXD.out.1] at h
    rw [HL3.out]
    exact h.mono fun e w' h => h.len
  have hc1 : ((l1 : Int) + (l2 : Int)) = (m : Int) + (l3 : Int) := by have := HCT.out.1; omega
  have hc2 : l1 ≤ 24 ∧ l2 ≤ 24 ∧ l3 ≤ 24 ∧ 0 < l3 ∧ m ≤ 24 := by have := HCT.out; have := HML.out; omega
  obtain ⟨hcl1, hcl2, hcl3, hcl4, hcl5⟩ := hc2
  clear HX7 HCT HVK HL2 HL3 HXD HEV HB89 HWP HT HKL HRG HKN HR0 HML HOK HB1 HB2 HB3 HB35 HB36 HT3
  obtain ⟨⟨xn, xCA, xcc, xtc, xPA, xpc, xpk⟩, xXA, xxc, xcols, xEA, xec, xents⟩ := x
  unfold Ix.val Ix.cells at HLR HR2 HR3
  unfold Ix.cells at HW7
  unfold Ix.val Ix.cells
  simp only at HLR HR2 HR3 HW7 HXB x0 x1 x2 x3 x4 ⊢
  go_upto_region 3 with fail
  rw [← HW7.out]
  go_upto_region 6 with fail
  rw [← HW8.out]
  go_wp2_with fail
  rw [← HW9.out]
  refine HLR.out.mono ?_
  rintro e w10 ⟨A10, n10, c10, rfl, hn10, hb10⟩
  subst hn10
  have HB10 := Lib.hid hb10
  clear x0 x1 x2 x3 x4 hb10 HLR s0 s1 s2 r0
  obtain ⟨x0, x1, x2, x3, x4⟩ := HXB.out w10 (HB79.out.trans (HB10.out.mono HB79.out.size))
  have HC2 := Lib.hid (HR2.out w10 HB10.out)
  go_wp2_with fail
  refine HC2.out.mono ?_
  rintro e w11 ⟨A11, n11, c11, rfl, hn11, hb11⟩
  subst hn11
  have HB11 := Lib.hid (HB10.out.trans (((Below.refl w10.heap.size w10).alloc (Nat.le_refl _) (.cells #[.int .i64 3, .int .i64 0, .string ⟨#[122, 122, 122]⟩] 43)).trans (hb11.mono (le_size1 (Nat.le_refl _) _)) |>.mono HB10.out.size))
  clear x0 x1 x2 x3 x4 hb11 HC2 HR2
  obtain ⟨x0, x1, x2, x3, x4⟩ := HXB.out w11 (HB79.out.trans (HB11.out.mono HB79.out.size))
  have HC3 := Lib.hid (HR3.out w11 HB11.out)
  go_wp2_with fail
  refine HC3.out.mono ?_
  rintro e w12 ⟨A12, n12, c12, rfl, hn12, hb12⟩
  subst hn12
  have HF : Hid (Below w.heap.size w w12) := Lib.hid (HB7.out.trans ((HB79.out.trans ((HB11.out.trans (hb12.mono HB11.out.size)).mono HB79.out.size)).mono HB7.out.size))
  clear x0 x1 x2 x3 x4 hb12 HC3 HR3
  have hl3p : (0 : Int) < (n12 : Int) := by omega
  have hwa : IntKind.i64.wrap ((n10 : Int) + (n11 : Int)) = (n10 : Int) + (n11 : Int) := by rw [IntKind.wrap_i64]; omega
  have hwb : IntKind.i64.wrap ((m : Int) + (n12 : Int)) = (m : Int) + (n12 : Int) := by rw [IntKind.wrap_i64]; omega
  go_wp2_with fail
  go_ret
  exact ⟨rfl, HF.out⟩
end Go.Proofs.Ytakbabkcidioaaa
