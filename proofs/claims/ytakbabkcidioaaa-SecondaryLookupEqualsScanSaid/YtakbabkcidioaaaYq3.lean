/-
  The walk of the law SecondaryLookupEqualsScan.
-/
import Derived.Test.YtakbabkcidioaaaYl3
import Derived.Test.YtakbabkcidioaaaYl4
import Derived.Test.YtakbabkcidioaaaYq1
import Derived.Test.YtakbabkcidioaaaYq2
import Derived.Deep.RegionHeld3
namespace Go.Proofs.Ytakbabkcidioaaa
open Go.RowKit Go.Sort

theorem two_own (W : World) (k l : Int) : Own 1 intCs 3 W.heap.size (W.alloc (.cells #[.int .i64 k, .int .i64 l] 3)) (.slice (some ⟨W.heap.size, 0, none⟩) 2 2) [k, l] :=
  World.ownsRow_lit (base := W.heap.size) (e := 3) (size := 1) W #[.int .i64 k, .int .i64 l] 2 (Nat.le_refl _) (by unfold maxLen; omega) (by simp)
theorem two_valE (W : World) (u v : Val) : Elems 3 Val.cs (W.alloc (.cells #[.int .i64 u.kind, .int .i64 u.int, .string u.text, .int .i64 v.kind, .int .i64 v.int, .string v.text] 43)) (· < (W.alloc (.cells #[.int .i64 u.kind, .int .i64 u.int, .string u.text, .int .i64 v.kind, .int .i64 v.int, .string v.text] 43)).heap.size) (some ⟨W.heap.size, 0, none⟩) [u, v] :=
  have h : Own 3 Val.cs 43 W.heap.size (W.alloc (.cells #[.int .i64 u.kind, .int .i64 u.int, .string u.text, .int .i64 v.kind, .int .i64 v.int, .string v.text] 43)) (.slice (some ⟨W.heap.size, 0, none⟩) 2 2) [u, v] := Own.shut valLay (Nat.le_refl _) (heap_alloc_new W _) rfl (Nat.le_refl _) (by decide) rfl rfl
  (h.elems valLay.len rfl).more fun g hg => (Own.lt h g hg).2
theorem hitB_trow (v0 v1 : Val) (i : Nat) (n : Int) : hitB v0 v1 (trow i n) = (decide (genB (n.tdiv 8) = v0) && decide (genT n = v1)) := rfl
theorem scanX_take {v0 v1 : Val} {rows : List Row} {k : Nat} (hk : k < rows.length) : scanX v0 v1 (rows.take (k + 1)) = scanX v0 v1 (rows.take k) ++ (if hitB v0 v1 rows[k] then [keyOf [0] rows[k]] else []) := by
  unfold scanX
  rw [List.take_succ_eq_append_getElem hk, List.filter_append, List.map_append]
  congr 1
  rw [List.filter_cons]
  split <;> rfl
theorem scanX_len (v0 v1 : Val) (rows : List Row) : (scanX v0 v1 rows).length ≤ rows.length := by
  unfold scanX
  rw [List.length_map]
  exact List.length_filter_le _ _
theorem TRel.below {base : Nat} {w0 w w' : World} {v : Value} {ks : List Key} {rs : List Row} (h : TRel base w0 w v ks rs) (hb : Below w.heap.size w w') (hB : base ≤ w.heap.size) : TRel base w0 w' v ks rs :=
  ⟨h.own.below hb, h.rows, fun k hk => ((h.el k hk).keep (Keeps.of_below hb fun _ h => h.2.1)).more fun _ hg => ⟨hg.1, Nat.lt_of_lt_of_le hg.2.1 hb.size, hg.2.2⟩, h.bel.trans (hb.mono hB), fun k hk => ⟨(h.own3 k hk).1.below hb, (h.own3 k hk).2⟩⟩
/-- The two values looked for. -/
def TwoPost (W : World) (u v : Val) (val : Value) (wx : World) : Prop := ∃ g, val = .slice (some ⟨g, 0, none⟩) 2 2 ∧ Elems 3 Val.cs wx (· < wx.heap.size) (some ⟨g, 0, none⟩) [u, v] ∧ Below W.heap.size W wx

set_option maxRecDepth 100000 in
set_option maxHeartbeats 8000000 in
theorem scan_law (A : Option Addr) (c : Nat) (xs : List Int) (n : Int) (w : World) (hx : Elems 1 intCs w (· < w.heap.size) A xs) (_hl : xs.length ≤ c) (_hcm : c ≤ maxLen) (hok : ∀ x ∈ xs, I64 x) (hsz : xs.length * 8 ≤ reachBytes) (hn : I64 n) :
    Calls Try.prog 4 #[.slice A xs.length c, .int .i64 n] w fun e w' => e = .returned (.bool true) ∧ Below w.heap.size w w' := by
  have HIT := Lib.hid (indexTableW w)
  have HX := Lib.hid hx
  have HOK : Hid (∀ k ∈ [n] ++ xs, I64 k) := Lib.hid fun k hk => by
    rcases List.mem_append.1 hk with h | h
    · rw [List.mem_singleton.1 h]; exact hn
    · exact hok k h
  obtain ⟨N, hN⟩ : ∃ N, xs.length = N := ⟨_, rfl⟩
  have hrb : reachBytes ≤ 140737488355320 := by decide
  have H1 : Hid ((([n] : List Int).length + xs.length) * 8 ≤ 140737488355328) := Lib.hid (by simp; omega)
  have H2 : Hid (([n] : List Int).length + xs.length ≤ maxLen) := Lib.hid (by unfold maxLen; simp; omega)
  rw [hN]
  have HN : Hid (N = xs.length) := Lib.hid hN.symm
  clear hx hok hsz hN hrb hn
  go_enter Try.func4, Try.ntmps4
  go_wp2_with fail
  refine HIT.out.mono ?_
  rintro e w1 ⟨a, p, rfl, ht, hb1⟩
  have HB1 := Lib.hid hb1
  have HT1 := Lib.hid ht
  have HXA := Lib.hid ((HX.out.on hb1).keep (w' := w1.alloc (.cells #[.int .i64 n] 3)) fun k hk => Below.heap_alloc _ _ _ hk)
  have hb : w1.heap.size ≤ (w1.alloc (.cells #[.int .i64 n] 3)).heap.size := by simp
  have HO := Lib.hid (one_own w1 n)
  clear hb1 ht HIT HX
  unfold iTbl Tbl.val
  simp only
  rw [show iCols.length = 3 from rfl, show ([0] : List Int).length = 1 from rfl]
  go_wp2_with (at_builtin; refine wpList_app rfl (.tmp 16) (.tmp 17) _ _ rfl rfl rfl (run_pushs elem_ints intLay _ (w1.alloc (.cells #[.int .i64 n] 3)) _ [n] HO.out HXA.out HN.out H1.out H2.out hb) ?_; rintro v2 w2 ⟨ho2, hx2⟩)
  have hb2 : Below w1.heap.size w1 w2 := ((Below.refl _ _).alloc (Nat.le_refl _) _).trans (hx2.below (base := w1.heap.size) hb (fun g hg => Nat.le_of_eq (Option.some.inj hg)))
  obtain ⟨A2, c2, rfl, hl2, hm2⟩ := ho2.form
  have HTR := Lib.hid (tableRowsW A2 c2 ([n] ++ xs) w2 ((ho2.elems intLay.len rfl).more fun k hk => (ho2.lt k hk).2) hl2 hm2 HOK.out)
  obtain ⟨m, hm⟩ : ∃ m, m = min ([n] ++ xs).length 24 := ⟨_, rfl⟩
  rw [← hm] at HTR
  have hm24 : 0 < m ∧ m ≤ 24 := by rw [hm, List.length_append]; simp; omega
  have HB2 := Lib.hid (HB1.out.trans (hb2.mono HB1.out.size))
  have HT2 := Lib.hid ((HT1.out.more fun g hg => hg.2).on hb2)
  have htr0 : trow 0 n ∈ trF ([n] ++ xs) m := List.mem_map.2 ⟨0, List.mem_range.2 hm24.1, rfl⟩
  have HLK : Hid (lkX [genB (n.tdiv 8), genT n] [genB (n.tdiv 8), genT n] (bldX [0] [2, 1] (trF ([n] ++ xs) m)) = scanX (genB (n.tdiv 8)) (genT n) (trF ([n] ++ xs) m)) := Lib.hid (lookup_scan (t := iTbl none none) rfl rfl ([n] ++ xs) m hm24.2 _ _)
  have HPOS : Hid (0 < (scanX (genB (n.tdiv 8)) (genT n) (trF ([n] ++ xs) m)).length) := Lib.hid (scan_pos _ _ htr0 (by rw [hitB_trow, decide_eq_true rfl, decide_eq_true rfl]; rfl))
  have HRK : Hid (∀ (i : Nat), i < m → ∃ k, (trF ([n] ++ xs) m)[i]? = some (trow i k)) := Lib.hid fun i h => ⟨([n] ++ xs).getD i 0, by unfold trF; rw [List.getElem?_map, List.getElem?_range h]; rfl⟩
  obtain ⟨rows, hrows⟩ : ∃ rows, rows = trF ([n] ++ xs) m := ⟨_, rfl⟩
  rw [← hrows] at HTR HLK HPOS HRK
  have HML : Hid (rows.length = m ∧ 0 < m ∧ m ≤ 24) := Lib.hid ⟨by rw [hrows, trF_len], hm24.1, hm24.2⟩
  have HR0 : Hid (rows[0]? = some (trow 0 n)) := Lib.hid (by
    rw [hrows]
    unfold trF
    rw [List.getElem?_map, List.getElem?_range hm24.1]
    rfl)
  have HRG : Hid (∀ (t : Tbl), t.cols = iCols → t.pk = [0] → (∀ r ∈ rows, RGood t [2, 1] r)) := Lib.hid fun t h1 h2 => by rw [hrows]; exact trF_good h1 h2 (by decide) (by decide) hm24.2
  have HKN : Hid ((rows.map (keyOf [0])).Nodup) := Lib.hid (by rw [hrows]; exact trF_keys _ _)
  clear ho2 hx2 hb2 hm hrows hm24 hl2 hm2 H1 H2 HN HO HXA htr0 HT1 hb
  refine HTR.out.mono ?_
  rintro e w3 ⟨v3, rfl, ks, hT⟩
  have hkl : ks.length = m := by
    have h := congrArg List.length hT.rows
    rwa [List.length_map, HML.out.1] at h
  obtain ⟨g3, c3, cur3, rfl, -⟩ := hT.own.open_ (by rw [hkl]; exact HML.out.2.1)
  have HT := Lib.hid hT
  have HB3 := Lib.hid (HB2.out.trans (hT.bel.mono HB2.out.size))
  have HKL := Lib.hid hkl
  rw [hkl]
  have HT3 := Lib.hid (HT2.out.on hT.bel)
  clear hT hkl HTR
  obtain ⟨W5, hW5⟩ : ∃ W5, W5 = (w3.alloc (.cells #[.string ⟨#[97]⟩, .slice (some ⟨a, 0, none⟩) 3 3, .slice (some ⟨p, 0, none⟩) 1 1] 27)).alloc (.cells #[.int .i64 2, .int .i64 1] 3) := ⟨_, rfl⟩
  have hb35 : Below w3.heap.size w3 W5 := by rw [hW5]; exact ((Below.refl _ _).alloc (Nat.le_refl _) _).alloc (le_size1 (Nat.le_refl _) _) _
  have HBD : Hid (Calls Try.prog 8 #[(iTbl (some ⟨a, 0, none⟩) (some ⟨p, 0, none⟩)).val, .slice (some ⟨w3.heap.size + 1, 0, none⟩) 2 2, .slice (some ⟨g3, 0, none⟩) m c3] W5 (BdPost W5 [2, 1] rows)) := Lib.hid
    (buildLaw (a := a) (p := p) (some ⟨w3.heap.size + 1, 0, none⟩) 2 [2, 1] (some ⟨g3, 0, none⟩) c3 m ks rows W5 (HT3.out.on hb35) (by
        have h := (two_own (w3.alloc (.cells #[.string ⟨#[97]⟩, .slice (some ⟨a, 0, none⟩) 3 3, .slice (some ⟨p, 0, none⟩) 1 1] 27)) 2 1)
        have h2 := (h.elems intLay.len rfl).more fun g hg => (h.lt g hg).2
        rw [hW5, ← size1 w3 (.cells #[.string ⟨#[97]⟩, .slice (some ⟨a, 0, none⟩) 3 3, .slice (some ⟨p, 0, none⟩) 1 1] 27)]
        exact h2) (by decide) HKL.out (by decide) (by decide) (by decide)
      (((HT.out.own.elems keyLay.len rfl).more fun g hg => (Own.lt HT.out.own g hg).2).on hb35) (fun k hk => ((HT.out.el k hk).el.more fun g hg => hg.2.1).on hb35) HT.out.rows (HRG.out _ rfl rfl) HKN.out (by rw [HML.out.1]; exact HML.out.2.2))
  have HB35 := Lib.hid hb35
  have HW5 := Lib.hid hW5
  clear hW5 HT2
  unfold iTbl Tbl.val at HBD
  simp only at HBD
  rw [show iCols.length = 3 from rfl, show ([0] : List Int).length = 1 from rfl] at HBD
  go_wp2_with fail
  rw [← HW5.out]
  refine HBD.out.mono ?_
  rintro e w6 ⟨x, rfl, hX, hb6⟩
  have HB36 := Lib.hid (HB35.out.trans (hb6.mono HB35.out.size))
  obtain ⟨W7, hW7⟩ : ∃ W7, W7 = w6.alloc (.cells x.cells 30) := ⟨_, rfl⟩
  have hb7 : Below w6.heap.size w6 W7 := by rw [hW7]; exact (Below.refl _ _).alloc (Nat.le_refl _) _
  have hg7 : W7.heap[w6.heap.size]? = some (.cells x.cells 30 (0, 0)) := by rw [hW7]; exact heap_alloc_new w6 _
  have hs7 : w6.heap.size < W7.heap.size := by rw [hW7]; simp
  have hX7 : Bt (· < W7.heap.size) W7 x [2, 1] rows := (hX.keep (Keeps.of_below hb7 fun _ h => h.2)) fun g hg => by omega
  have hb37 : Below w3.heap.size w3 W7 := HB36.out.trans (hb7.mono HB36.out.size)
  have HXB : Hid (∀ W, Below W7.heap.size W7 W → W.cell? ⟨w6.heap.size, 0, none⟩ = some (.string x.t.name) ∧ W.cell? ⟨w6.heap.size, 1, none⟩ = some (.slice x.t.CA x.t.cols.length x.t.cc) ∧ W.cell? ⟨w6.heap.size, 2, none⟩ = some (.slice x.t.PA x.t.pk.length x.t.pc) ∧ W.cell? ⟨w6.heap.size, 3, none⟩ = some (.slice x.XA x.cols.length x.xc) ∧ W.cell? ⟨w6.heap.size, 4, none⟩ = some (.slice x.EA x.ents.length x.ec)) := Lib.hid fun W hW => Ix.box (w' := W) hg7 (hW.block _ hs7)
  have HTB : Hid (∀ W, Below W7.heap.size W7 W → W.cell? ⟨w3.heap.size, 0, none⟩ = some (.string ⟨#[97]⟩) ∧ W.cell? ⟨w3.heap.size, 1, none⟩ = some (.slice (some ⟨a, 0, none⟩) 3 3) ∧ W.cell? ⟨w3.heap.size, 2, none⟩ = some (.slice (some ⟨p, 0, none⟩) 1 1)) := Lib.hid fun W hW => by
    have h5 : W5.heap[w3.heap.size]? = some (.cells #[.string ⟨#[97]⟩, .slice (some ⟨a, 0, none⟩) 3 3, .slice (some ⟨p, 0, none⟩) 1 1] 27 (0, 0)) := by rw [HW5.out, Below.heap_alloc _ _ _ (by simp)]; exact heap_alloc_new w3 _
    have hs5 : w3.heap.size < W5.heap.size := by rw [HW5.out, size1, size1]; omega
    have h57 : Below W5.heap.size W5 W := by
      have h1 : Below W5.heap.size W5 W7 := hb6.trans (hb7.mono hb6.size)
      exact h1.trans (hW.mono h1.size)
    have hg := (h57.block _ hs5).trans h5
    exact ⟨by rw [cell_of_row _ _ _ _ _ _ hg]; rfl, by rw [cell_of_row _ _ _ _ _ _ hg]; rfl, by rw [cell_of_row _ _ _ _ _ _ hg]; rfl⟩
  have HKW : Hid (∀ W, Below W7.heap.size W7 W → Elems 1 Key.cs W (· < W.heap.size) (some ⟨g3, 0, none⟩) ks ∧ (∀ k ∈ ks, KOk (· < W.heap.size) W k) ∧ TOk (· < W.heap.size) W (iTbl (some ⟨a, 0, none⟩) (some ⟨p, 0, none⟩))) := Lib.hid fun W hW =>
    ⟨((((HT.out.own.elems keyLay.len rfl).more fun g hg => (Own.lt HT.out.own g hg).2).on hb37).on hW), fun k hk => (((HT.out.el k hk).more fun g hg => hg.2.1).on hb37).on hW, (HT3.out.on hb37).on hW⟩
  have HRW : Hid (∀ (i : Nat) (h : i < ks.length), ∃ q, ks[i].row = trow i q ∧ rows[i]? = some ks[i].row) := Lib.hid fun i h => by
    have hi : i < rows.length := by have := congrArg List.length HT.out.rows; rw [List.length_map] at this; omega
    have e : ks[i].row = rows[i] := by
      have h1 := congrArg (fun l => l[i]?) HT.out.rows
      simp only [List.getElem?_map, List.getElem?_eq_getElem h, List.getElem?_eq_getElem hi, Option.map_some] at h1
      exact Option.some.inj h1
    obtain ⟨q, hq⟩ := HRK.out i (by have := HKL.out; omega)
    rw [List.getElem?_eq_getElem hi] at hq
    exact ⟨q, by rw [e, Option.some.inj hq], by rw [e]; exact List.getElem?_eq_getElem hi⟩
  -- the first row's values
  have hk0 : 0 < ks.length := by have := HKL.out; have := HML.out; omega
  have hrow0 : ks[0].row = trow 0 n := by
    have h := HR0.out
    rw [← HT.out.rows, List.getElem?_map, List.getElem?_eq_getElem hk0] at h
    exact Option.some.inj h
  obtain ⟨hkw, hkk, -⟩ := HKW.out W7 (Below.refl _ _)
  obtain ⟨_, _, eg, -, r0⟩ := hkw.key hk0
  injection eg with eg
  injection eg with eg1 eg2
  subst eg1 eg2
  have hel0 := (hkk _ (List.getElem_mem hk0)).el
  rw [hrow0] at hel0 r0
  generalize ks[0] = q0 at *
  obtain ⟨qA, qc, qr⟩ := q0
  simp only at r0 hel0
  obtain ⟨qb, qo, rfl, -, s0, s1, s2⟩ := hel0.val (k := 1) (by show 1 < 3; omega)
  obtain ⟨_, _, eg, -, z0, z1, z2⟩ := hel0.val (k := 2) (by show 2 < 3; omega)
  injection eg with eg
  injection eg with eg1 eg2
  subst eg1 eg2
  rw [show (trow 0 n)[1]'(by show 1 < 3; omega) = genT n from rfl] at s0 s1 s2
  rw [show (trow 0 n)[2]'(by show 2 < 3; omega) = genB (n.tdiv 8) from rfl] at z0 z1 z2
  rw [show (trow 0 n).length = 3 from rfl] at r0
  have HVK : Hid (∀ t : Tbl, t.cols = iCols → VOk t [2, 1] [genB (n.tdiv 8), genT n]) := Lib.hid fun t ht => vok_of ht (cols := [2, 1]) (by decide) (by decide) (i := 0) (by omega) n
  obtain ⟨v1, hv1⟩ : ∃ v1, v1 = genT n := ⟨_, rfl⟩
  obtain ⟨v0, hv0⟩ : ∃ v0, v0 = genB (n.tdiv 8) := ⟨_, rfl⟩
  rw [← hv1] at s0 s1 s2 HVK HLK HPOS
  rw [← hv0] at z0 z1 z2 HVK HLK HPOS
  have HX7 := Lib.hid hX7
  have HB7 := Lib.hid ((HB3.out.trans (hb37.mono HB3.out.size)))
  have HW7 := Lib.hid hW7
  have hm0 : (0 : Int) < (m : Int) := by have := HML.out; omega
  have hm1 : 0 < m := HML.out.2.1
  have hm24 : m ≤ 24 := HML.out.2.2
  clear hX hb6 hW7 hb7 hg7 hs7 hX7 hb37 hk0 hrow0 hel0 HBD HW5 hv1 hv0 hkw hkk HRK HR0 HKN HRG
  have HXD : Hid (x.xd = bldX [0] [2, 1] rows ∧ XVal x ∧ x.cols = [2, 1] ∧ x.t.cols = iCols) := Lib.hid ⟨HX7.out.data, HX7.out.val, HX7.out.cols, HX7.out.tc⟩
  have HLW : Hid (∀ (W : World) (g : Nat), Below W7.heap.size W7 W → Elems 3 Val.cs W (· < W.heap.size) (some ⟨g, 0, none⟩) [v0, v1] → Calls Try.prog 13 #[x.val, .slice (some ⟨g, 0, none⟩) 2 2] W (LkPost W [v0, v1] [v0, v1] (bldX [0] [2, 1] rows))) := Lib.hid fun W g hW he => by
    have h := lookupW x (some ⟨g, 0, none⟩) 2 [v0, v1] W (HX7.out.below hW).ok HXD.out.2.1 he (by rw [HXD.out.2.2.1]; exact HVK.out _ HXD.out.2.2.2) (by rw [HXD.out.2.2.1]; decide)
    rw [HXD.out.1] at h
    exact h
  clear HX7 HXD HVK HOK
  obtain ⟨⟨xn, xCA, xcc, xtc, xPA, xpc, xpk⟩, xXA, xxc, xcols, xEA, xec, xents⟩ := x
  unfold Ix.val at HLW
  unfold Ix.cells at HLW HW7
  unfold Ix.val Ix.cells
  simp only at HLW HW7 HXB ⊢
  go_upto_region 3 with fail
  rw [← HW7.out]
  go_upto_region 5 with fail
  go_cut [9] from 29 to 39 (TwoPost W7 v0 v1)
  case first =>
    have HE : Hid (∀ k, TwoPost W7 v0 v1 (.slice (some ⟨W7.heap.size, 0, none⟩) 2 2) ((W7.alloc (.cells #[.int .i64 v0.kind, .int .i64 v0.int, .string v0.text, .int .i64 v1.kind, .int .i64 v1.int, .string v1.text] 43)).drewN k)) := Lib.hid fun k => ⟨_, rfl, (two_valE W7 v0 v1).on (below_drewN (Below.refl _ _) k), ((Below.refl _ _).alloc (Nat.le_refl _) _).trans (below_drewN (Below.refl _ _) k)⟩
    clear HTB HKW HRW HLW HXB HLK HPOS HML HKL HT HT3 HB1 HB2 HB3 HB7 HB35 HB36 HW7
    go_region_held3 (fun w' => w'.cell? ⟨g3, 0, none⟩ = some (.slice (some ⟨qb, qo, none⟩) 3 qc) ∧ w'.cell? ⟨qb, qo + 6, none⟩ = some (.int .i64 v0.kind) ∧ w'.cell? ⟨qb, qo + 7, none⟩ = some (.int .i64 v0.int) ∧ w'.cell? ⟨qb, qo + 8, none⟩ = some (.string v0.text) ∧ w'.cell? ⟨qb, qo + 3, none⟩ = some (.int .i64 v1.kind) ∧ w'.cell? ⟨qb, qo + 4, none⟩ = some (.int .i64 v1.int) ∧ w'.cell? ⟨qb, qo + 5, none⟩ = some (.string v1.text)) (go_keep) (fail)
    go_wp2_with fail
    go_meet
    exact HE.out 1
  case rest =>
    obtain ⟨g9, rfl, he9, hb9⟩ := hcut
    have HB9 := Lib.hid hb9
    have HE9 := Lib.hid he9
    have HL := Lib.hid (HLW.out wc g9 hb9 he9)
    obtain ⟨x0, x1, x2, x3, x4⟩ := HXB.out wc hb9
    obtain ⟨wo, rfl⟩ : ∃ wo, wo = wc := ⟨_, rfl⟩
    clear hb9 he9 r0 s0 s1 s2 z0 z1 z2
    go_wp2_with fail
    refine HL.out.mono ?_
    rintro e w10 ⟨v10, kg, rfl, ho10, hr10, hk10, hb10⟩
    obtain ⟨A10, c10, rfl, -, -⟩ := ho10.form
    have hb710 : Below W7.heap.size W7 w10 := HB9.out.trans (hb10.mono HB9.out.size)
    have HB10 := Lib.hid hb710
    have HG10 : Hid (kg.map Key.row = scanX v0 v1 rows ∧ Elems 1 Key.cs w10 (· < w10.heap.size) A10 kg ∧ ∀ k ∈ kg, KOk (· < w10.heap.size) w10 k) := Lib.hid ⟨by rw [hr10, HLK.out], (ho10.elems keyLay.len rfl).more fun g hg => (Own.lt ho10 g hg).2, hk10⟩
    have HE10 := Lib.hid (HE9.out.on hb10)
    obtain ⟨n10, hn10⟩ : ∃ n10, kg.length = n10 := ⟨_, rfl⟩
    rw [hn10]
    have HN10 := Lib.hid hn10
    clear ho10 hr10 hk10 hb10 hb710 x0 x1 x2 x3 x4 HL HLW HXB HLK hn10
    go_wp2_with fail
    go_loopw [11, 48] (fun v11 vk wr => ∃ k : Nat, vk = .int .i64 (k : Int) ∧ k ≤ m ∧ TPost w10.heap.size w10 wr v11 (scanX v0 v1 (rows.take k))) (fun _ vk _ => m - (intOf vk).toNat)
    case atStart => exact ⟨0, rfl, by omega, [], Own.nil _, rfl, (fun k hk => by cases hk), Below.refl _ _, (fun k hk => by cases hk)⟩
    case round =>
      obtain ⟨k, rfl, hkm, kt, hT⟩ := hrel
      obtain ⟨wi, rfl⟩ : ∃ wi, wi = wr := ⟨_, rfl⟩
      obtain ⟨v11, rfl⟩ : ∃ v11, v11 = u11 := ⟨_, rfl⟩
      have hb7i : Below W7.heap.size W7 wi := HB10.out.trans (hT.bel.mono HB10.out.size)
      by_cases hlt : k < m
      · have hki : k < ks.length := by have := HKL.out; omega
        have hkm' : (k : Int) < (m : Int) := by omega
        obtain ⟨hkw, hkk, htk⟩ := HKW.out wi hb7i
        obtain ⟨_, _, eg, -, rk⟩ := hkw.key hki
        injection eg with eg
        injection eg with eg1 eg2
        subst eg1 eg2
        simp only [Nat.zero_add] at rk
        obtain ⟨q, hq, hrk⟩ := HRW.out k hki
        have hel := (hkk _ (List.getElem_mem hki)).el
        rw [hq] at rk hel hrk
        have hkr : k < rows.length := by have := HML.out.1; omega
        have hrr : rows[k] = trow k q := by
          rw [List.getElem?_eq_getElem hkr] at hrk
          exact Option.some.inj hrk
        have HST : Hid (scanX v0 v1 (rows.take (k + 1)) = scanX v0 v1 (rows.take k) ++ if hitB v0 v1 (trow k q) then [keyOf [0] (trow k q)] else []) := Lib.hid (by rw [scanX_take hkr, hrr])
        have HLS : Hid ((scanX v0 v1 (rows.take k)).length ≤ 24) := Lib.hid (Nat.le_trans (scanX_len _ _ _) (by rw [List.length_take]; omega))
        generalize ks[k] = qk at *
        obtain ⟨kA, kc, kr⟩ := qk
        simp only at hq rk hel
        rw [show (trow k q).length = 3 from rfl] at rk
        obtain ⟨rb, ro, rfl, -, t0, t1, t2⟩ := hel.val (k := 1) (by show 1 < 3; omega)
        obtain ⟨_, _, eg, -, u0, u1, u2⟩ := hel.val (k := 2) (by show 2 < 3; omega)
        injection eg with eg
        injection eg with eg1 eg2
        subst eg1 eg2
        rw [show (trow k q)[1]'(by show 1 < 3; omega) = genT q from rfl] at t0 t1 t2
        rw [show (trow k q)[2]'(by show 2 < 3; omega) = genB (q.tdiv 8) from rfl] at u0 u1 u2
        have he := HE10.out.on hT.bel
        obtain ⟨_, _, eg, -, a0, a1, a2⟩ := he.val (k := 0) (by show 0 < 2; omega)
        injection eg with eg
        injection eg with eg1 eg2
        subst eg1 eg2
        obtain ⟨_, _, eg, -, b0, b1, b2⟩ := he.val (k := 1) (by show 1 < 2; omega)
        injection eg with eg
        injection eg with eg1 eg2
        subst eg1 eg2
        rw [show ([v0, v1] : List Val)[0] = v0 from rfl] at a0 a1 a2
        rw [show ([v0, v1] : List Val)[1] = v1 from rfl] at b0 b1 b2
        simp only [Nat.zero_add, Nat.zero_mul, Nat.one_mul] at a0 a1 a2 b0 b1 b2
        have HIT : Hid (hitB v0 v1 (trow k q) = (decide (genB (q.tdiv 8) = v0) && decide (genT q = v1))) := Lib.hid rfl
        have HKO := Lib.hid (fun (W : World) (hW : Below wi.heap.size wi W) => keyOfB (iTbl (some ⟨a, 0, none⟩) (some ⟨p, 0, none⟩)) (some ⟨rb, ro, none⟩) kc (trow k q) W (htk.on hW) (hel.on hW) (by show 1 ≤ 1000; omega))
        obtain ⟨vb, hvb⟩ : ∃ vb, vb = genB (q.tdiv 8) := ⟨_, rfl⟩
        obtain ⟨vt, hvt⟩ : ∃ vt, vt = genT q := ⟨_, rfl⟩
        rw [← hvb] at u0 u1 u2 HIT
        rw [← hvt] at t0 t1 t2 HIT
        have HT9 := Lib.hid hT
        have HB7I := Lib.hid hb7i
        have e0 := fun W => eql_val vb.kind vb.int v0.kind v0.int vb.text v0.text W
        have e1 := fun W => eql_val vt.kind vt.int v1.kind v1.int vt.text v1.text W
        rw [Val.ext_iff'] at e0 e1
        unfold iTbl Tbl.val at HKO
        simp only at HKO
        rw [show iCols.length = 3 from rfl, show ([0] : List Int).length = 1 from rfl, show (trow k q).length = 3 from rfl] at HKO
        generalize hitB v0 v1 (trow k q) = hb at *
        clear hT hb7i hkw hkk htk hrk hel hkr hrr he hq hki hvb hvt
        go_upto_region 11 with fail
        go_cut [67] from 52 to 67 (fun v67 wx => v67 = .bool hb ∧ Below wi.heap.size wi wx)
        case first =>
          by_cases h1 : vb = v0
          · have d1 : decide (vb = v0) = true := decide_eq_true h1
            rw [d1] at e0 HIT
            have H1 := Lib.hid h1
            clear h1 d1
            by_cases h2 : vt = v1
            · have d2 : decide (vt = v1) = true := decide_eq_true h2
              rw [d2] at e1 HIT
              have H2 := Lib.hid h2
              clear h2 d2
              go_quiet (fail)
              go_wp2_with fail
              go_meet
              exact ⟨by rw [HIT.out]; rfl, below_drewN (Below.refl _ _) _⟩
            · have d2 : decide (vt = v1) = false := decide_eq_false h2
              rw [d2] at e1 HIT
              have H2 := Lib.hid h2
              clear h2 d2
              go_quiet (fail)
              go_wp2_with fail
              go_meet
              exact ⟨by rw [HIT.out]; rfl, below_drewN (Below.refl _ _) _⟩
          · have d1 : decide (vb = v0) = false := decide_eq_false h1
            rw [d1] at e0 HIT
            have H1 := Lib.hid h1
            clear h1 d1
            go_quiet (fail)
            go_wp2_with fail
            go_meet
            exact ⟨by rw [HIT.out]; rfl, below_drewN (Below.refl _ _) _⟩
        case rest =>
          obtain ⟨rfl, hbc⟩ := hcut
          have HBC := Lib.hid hbc
          clear hbc e0 e1 t0 t1 t2 u0 u1 u2 a0 a1 a2 b0 b1 b2 rk HIT
          cases hb with
          | true =>
            obtain ⟨tb0, tb1, tb2⟩ := HTB.out wc (HB7I.out.trans (HBC.out.mono HB7I.out.size))
            have HK := Lib.hid (HKO.out wc HBC.out)
            clear HKO
            go_wp2_with fail
            refine HK.out.mono ?_
            rintro e w13 ⟨v13, rfl, ho13, hb13⟩
            obtain ⟨A13, c13, rfl, -, -⟩ := ho13.form
            have hbi13 : Below wi.heap.size wi w13 := HBC.out.trans (hb13.mono HBC.out.size)
            have HPU : Hid (∀ w' v', Own 1 Key.cs 37 w10.heap.size w' v' (kt ++ [⟨A13, c13, keyOf [0] (trow k q)⟩]) → Ext w13 v11 w' v' → TPost w10.heap.size w10 w' v' (scanX v0 v1 (rows.take (k + 1)))) := Lib.hid fun w' v' h1 h2 => ⟨_, by
              rw [HST.out, if_pos trivial]
              exact HT9.out.push hbi13 ⟨(ho13.elems valLay.len rfl).more fun g hg => by have := Own.lt ho13 g hg; have := HBC.out.size; omega, by show 1 ≤ 12; omega⟩ (ho13.mono HBC.out.size) h1 h2 HT9.out.bel.size⟩
            have HO3 : Hid (Own 1 Key.cs 37 w10.heap.size w13 v11 kt ∧ w10.heap.size ≤ w13.heap.size) := Lib.hid ⟨HT9.out.own.below hbi13, Nat.le_trans HT9.out.bel.size hbi13.size⟩
            have hktl : kt.length ≤ 24 := by
              have h := congrArg List.length HT9.out.rows
              rw [List.length_map] at h
              have := HLS.out
              omega
            have HL1 : Hid ((kt.length + 1) * 24 ≤ 140737488355328) := Lib.hid (by omega)
            have HL2 : Hid (kt.length + 1 ≤ maxLen) := Lib.hid (by unfold maxLen; omega)
            clear ho13 hb13 hbi13 hktl tb0 tb1 tb2 HK
            go_wp2_with (at_builtin; refine wpList_app rfl (.tmp 68) (.tmp 72) _ _ rfl rfl rfl (run_push elem_keys keyLay _ _ _ kt ⟨A13, c13, keyOf [0] (trow k q)⟩ _ HO3.out.1 rfl HL1.out HL2.out HO3.out.2 rfl) ?_; rintro v14 w14 ⟨ho14, hx14⟩)
            have HF := Lib.hid (HPU.out _ _ ho14 hx14)
            clear ho14 hx14
            go_wp2_with fail
            go_roundw
            case rel => exact ⟨k + 1, by go_num, by omega, HF.out⟩
            case measure => simp [intOf]; omega
          | false =>
            have HF : Hid (TPost w10.heap.size w10 wc v11 (scanX v0 v1 (rows.take (k + 1)))) := Lib.hid (by
              rw [HST.out, if_neg (by simp), List.append_nil]
              exact ⟨kt, HT9.out.below HBC.out HT9.out.bel.size⟩)
            clear HKO
            go_wp2_with fail
            go_roundw
            case rel => exact ⟨k + 1, by go_num, by omega, HF.out⟩
            case measure => simp [intOf]; omega
      · have hkn' : k = m := by omega
        subst hkn'
        obtain ⟨A11, c11, rfl, -, -⟩ := hT.own.form
        have hrw : kt.map Key.row = scanX v0 v1 rows := by rw [hT.rows, List.take_of_length_le (by have := HML.out.1; omega)]
        have hlk : kt.length = (scanX v0 v1 rows).length := by rw [← hrw, List.length_map]
        have hsl := scanX_len v0 v1 rows
        have hRL : Calls Try.prog 15 #[.slice A10 n10 c10, .slice A11 kt.length c11] wi fun e w' => e = .returned (.bool true) ∧ Below wi.heap.size wi w' := by
          have h := rowListsEqual A10 A11 c10 c11 kg kt wi (HG10.out.2.1.on hT.bel) ((hT.own.elems keyLay.len rfl).more fun g hg => (Own.lt hT.own g hg).2) (fun q hq => (HG10.out.2.2 q hq).on hT.bel) (fun q hq => (hT.el q hq).more fun g hg => hg.2.1) (by
            have h1 := congrArg List.length HG10.out.1
            rw [List.length_map] at h1
            have := HML.out.1
            omega) (by rw [HG10.out.1, hrw])
          rw [HN10.out] at h
          exact h.mono fun e w' ⟨he, n, hw⟩ => ⟨he, by rw [hw]; exact below_drewN (Below.refl _ _) n⟩
        have HRL := Lib.hid hRL
        have HF := Lib.hid (HB7.out.trans (hb7i.mono HB7.out.size))
        have hp1 : (0 : Int) < (kt.length : Int) := by have := HPOS.out; omega
        have hp2 : 0 < kt.length := by omega
        generalize kt.length = n11 at *
        clear hT hRL hb7i hrw hlk hsl
        go_wp2_with fail
        refine HRL.out.mono ?_
        rintro e w14 ⟨rfl, hb14⟩
        have HFF := Lib.hid (HF.out.trans (hb14.mono HF.out.size))
        clear hb14 HRL
        go_wp2_with fail
        go_ret
        exact ⟨rfl, HFF.out⟩
end Go.Proofs.Ytakbabkcidioaaa
