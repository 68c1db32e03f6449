/-
  The walk of the law BTreeOrderIndependent.
-/
import Derived.Test.YtlgjkhdpinnccaaOl
import Derived.Test.YtlgjkhdpinnccaaOi
import Derived.Test.YtlgjkhdpinnccaaEf
namespace Go.Proofs.Ytlgjkhdpinnccaa
open Go.RowKit Go.Sort

set_option maxRecDepth 100000 in
set_option maxHeartbeats 4000000 in
theorem order_law (or oth : Int) (A : Option Addr) (c : Nat) (xs : List Int) (w : World) (hor : I64 or) (hoth : I64 oth) (hx : Elems 1 intCs w (· < w.heap.size) A xs) (hl : xs.length ≤ c) (hcm : c ≤ maxLen) (hok : ∀ x ∈ xs, I64 x) :
    Calls Try.prog 5 #[.int .i64 or, .int .i64 oth, .slice A xs.length c] w fun e w' => e = .returned (.bool true) ∧ Below w.heap.size w w' := by
  have HX := Lib.hid hx
  have HOK := Lib.hid hok
  have HOR := Lib.hid hor
  have HOT := Lib.hid hoth
  have HCM := Lib.hid hcm
  obtain ⟨N, hN⟩ : ∃ N, xs.length = N := ⟨_, rfl⟩
  obtain ⟨n2, hn2⟩ : ∃ n2, n2 = min N 200 := ⟨_, rfl⟩
  obtain ⟨n1, hn1⟩ : ∃ n1, n1 = min N 199 := ⟨_, rfl⟩
  have hmin2 : min (N : Int) 200 = (n2 : Int) := by omega
  have hmin1 : min (N : Int) 199 = (n1 : Int) := by omega
  have HCL : Hid (Calls Try.prog 15 #[.slice A n2 c] w fun e w' => ∃ v, e = .returned v ∧ Own 1 intCs 3 w.heap.size w' v (xs.take n2) ∧ Below w.heap.size w w') := Lib.hid
    (clone_ints intLay A n2 c (xs.take n2) w (· < w.heap.size) (hx.take n2) (fun _ h => h) (by rw [List.length_take]; omega) (by rw [List.length_take]; omega))
  have hb2 : (n2 : Int) ≤ (c : Int) := by omega
  have hb1 : (n1 : Int) ≤ (c : Int) := by omega
  have HNN : Hid (xs.length = N ∧ n2 = min N 200 ∧ n1 = min N 199 ∧ N ≤ c) := Lib.hid ⟨hN, hn2, hn1, by omega⟩
  rw [hN]
  clear hx hok hor hoth hcm hn2 hn1 hl hN
  go_enter Try.func5, Try.ntmps5
  go_wp2_with fail
  refine HCL.out.mono ?_
  rintro e w1 ⟨v1, rfl, ho1, hb1⟩
  obtain ⟨A1, m1, c1, rfl, hm1⟩ := ho1.form'
  have hm1' : m1 = n2 := by rw [List.length_take] at hm1; have := HNN.out; omega
  subst hm1'
  have HRV := Lib.hid (reverseAny ho1 hm1.symm (by have := HNN.out; omega) hb1.size)
  have HB1 := Lib.hid hb1
  clear ho1 hb1 hm1 HCL
  go_wp2_with fail
  refine HRV.out.mono ?_
  rintro e w2 ⟨rfl, ho2, hb2'⟩
  have HO2 := Lib.hid ho2
  have HB2 := Lib.hid (HB1.out.trans hb2')
  clear ho2 hb2' HRV
  have H1 : Hid ((([3] : List Int).length + (xs.take n1).length) * 8 ≤ 140737488355328) := Lib.hid (by have := HNN.out; simp; omega)
  have H2 : Hid (([3] : List Int).length + (xs.take n1).length ≤ maxLen) := Lib.hid (by have := HNN.out; unfold maxLen; simp; omega)
  have HX1 := Lib.hid (((HX.out.take n1).keep (w' := w2) (Keeps.of_below HB2.out fun _ h => h)).keep (w' := w2.alloc (.cells #[.int .i64 3] 3)) fun k hk => Below.heap_alloc _ _ _ (Nat.lt_of_lt_of_le hk HB2.out.size))
  have HO := Lib.hid (one_own w2 3)
  have hB : w2.heap.size ≤ (w2.alloc (.cells #[.int .i64 3] 3)).heap.size := by simp
  have HL1 : Hid (n1 = (xs.take n1).length) := Lib.hid (by rw [List.length_take]; have := HNN.out; omega)
  go_wp2_with (at_builtin; refine wpList_app rfl (.tmp 22) (.tmp 27) _ _ rfl rfl rfl (run_pushs elem_ints intLay _ (w2.alloc (.cells #[.int .i64 3] 3)) _ [3] HO.out HX1.out HL1.out H1.out H2.out hB) ?_; rintro v3 w3 ⟨ho3, hx3⟩; obtain ⟨A3, m3, c3, rfl, hm3⟩ := ho3.form')
  have hb3 : Below w2.heap.size w2 w3 := ((Below.refl _ _).alloc (Nat.le_refl _) _).trans (hx3.below (base := w2.heap.size) hB (fun g hg => Nat.le_of_eq (Option.some.inj hg)))
  have hcap : ([3] ++ xs.take n1).length ≤ c3 ∧ c3 ≤ maxLen := by
    obtain ⟨A4, c4, hv, h1, h2⟩ := ho3.form
    injection hv with _ _ h3
    rw [h3]
    exact ⟨h1, h2⟩
  have HT0 := treeOfW or A3 c3 ([3] ++ xs.take n1) w3 HOR.out ((ho3.elems intLay.len rfl).more fun k hk => (ho3.lt k hk).2) hcap.1 hcap.2 (fun n hn => by
    rcases List.mem_append.1 hn with h | h
    · simp at h; subst h; unfold I64; omega
    · exact HOK.out n (List.mem_of_mem_take h))
  rw [hm3] at HT0
  have HT := Lib.hid HT0
  have HB3 := Lib.hid (HB2.out.trans (hb3.mono HB2.out.size))
  have HO3 := Lib.hid (HO2.out.below hb3)
  have HA1 : Hid (∀ g, (Value.slice A1 m1 c1).ownBlock = some g → g < w3.heap.size) := Lib.hid fun g hg => (HO3.out.lt g hg).2
  clear HT0 hcap hb3 ho3 hx3 HX1 H1 H2 HO HO2
  refine HT.out.mono ?_
  rintro e w4 ⟨m, o, tb, hO, -, rfl, hT4, hb4⟩
  rw [show min (([3] : List Int) ++ xs.take n1).length 200 = (([3] : List Int) ++ xs.take n1).length from by rw [hm3]; have := HNN.out; have := HL1.out; simp at hm3; omega] at hT4
  have HO1 := Lib.hid hO
  have HT4 := Lib.hid hT4
  have HO4 := Lib.hid (HO3.out.below hb4)
  have HB4 := Lib.hid (HB3.out.trans (hb4.mono HB3.out.size))
  have HB34 := Lib.hid hb4.size
  clear hO hT4 hb4 HT HO3 hm3
  go_upto_region 4 with fail
  go_cut [10, 11] from 32 to 44 (fun v10 v11 wx => v11 = .bool true ∧ ∃ m o base tb', Order m o ∧ v10 = ptr tb' ∧ TreeAt base m o wx tb' (bld ((xs.take n1).reverse ++ [3]) ((xs.take n1).reverse ++ [3]).length) ∧ Below w.heap.size w4 wx ∧ ∀ k, w3.heap.size ≤ k → k < w4.heap.size → wx.heap[k]? = w4.heap[k]?)
  case first =>
    have HTO : Hid (∀ (A5 : Option Addr) (n5 c5 : Nat) (w5 : World), n5 = n1 + 1 → n5 ≤ c5 → c5 ≤ maxLen → Elems 1 intCs w5 (· < w5.heap.size) A5 ((xs.take n1).reverse ++ [3]) → Below w.heap.size w4 w5 → (∀ k, w3.heap.size ≤ k → k < w4.heap.size → w5.heap[k]? = w4.heap[k]?) →
        Calls Try.prog 9 #[.int .i64 oth, .slice A5 n5 c5] w5 fun e w6 => ∃ m o base tb', Order m o ∧ e = .returned (.tuple #[ptr tb', .bool true]) ∧ TreeAt base m o w6 tb' (bld ((xs.take n1).reverse ++ [3]) ((xs.take n1).reverse ++ [3]).length) ∧ Below w.heap.size w4 w6 ∧ ∀ k, w3.heap.size ≤ k → k < w4.heap.size → w6.heap[k]? = w4.heap[k]?) := Lib.hid fun A5 n5 c5 w5 hn hc hcm hel hb hfr => by
      have hlen : ((xs.take n1).reverse ++ [3]).length = n5 := by rw [List.length_append, List.length_reverse, ← HL1.out, hn]; rfl
      have h := treeOfW oth A5 c5 ((xs.take n1).reverse ++ [3]) w5 HOT.out hel (by omega) hcm (fun n hn => by
        rcases List.mem_append.1 hn with h | h
        · exact HOK.out n (List.mem_of_mem_take (List.mem_reverse.1 h))
        · simp at h; subst h; unfold I64; omega)
      rw [hlen] at h
      refine h.mono ?_
      rintro e w6 ⟨m, o, tb', hO, -, he, hT, hb'⟩
      have hmin : min ((xs.take n1).reverse ++ [3]).length 200 = ((xs.take n1).reverse ++ [3]).length := by have := HNN.out; omega
      rw [hmin] at hT
      exact ⟨m, o, _, tb', hO, he, hT, hb.trans (hb'.mono (Nat.le_trans HB4.out.size hb.size)), fun k h1 h2 => (hb'.block k (Nat.lt_of_lt_of_le h2 hb.size)).trans (hfr k h1 h2)⟩
    rcases Nat.lt_or_ge m1 200 with h | h
    · have hk : max (0 : Int) ((m1 : Int) - 199) = 0 := by omega
      have hnn : n1 = m1 := by have := HNN.out; omega
      have H1 : Hid (((xs.take m1).reverse.length + 1) * 8 ≤ 140737488355328) := Lib.hid (by have := HNN.out; rw [List.length_reverse, List.length_take]; omega)
      have H2 : Hid ((xs.take m1).reverse.length + 1 ≤ maxLen) := Lib.hid (by have := HNN.out; unfold maxLen; rw [List.length_reverse, List.length_take]; omega)
      have HB4s := Lib.hid HB4.out.size
      have HNX := Lib.hid hnn
      clear hnn
      go_wp2_with (at_builtin; refine wpList_app rfl (.tmp 39) (.tmp 40) _ _ rfl rfl rfl (run_push elem_ints intLay _ w4 _ (xs.take m1).reverse 3 _ HO4.out rfl H1.out H2.out HB4s.out rfl) ?_; rintro v5 w5 ⟨ho5, hx5⟩; obtain ⟨A5, m5, c5, rfl, hm5⟩ := ho5.form')
      have hb5 : Below w.heap.size w4 w5 := hx5.below HB4s.out (fun g hg => (HO4.out.lt g hg).1)
      have hfr5 : ∀ k, w3.heap.size ≤ k → k < w4.heap.size → w5.heap[k]? = w4.heap[k]? := fun k h1 h2 => hx5.grown.block k h2 fun e => by have := HA1.out k e.symm; omega
      have hcap : m5 ≤ c5 ∧ c5 ≤ maxLen := by
        obtain ⟨A6, c6, hv, h1, h2⟩ := ho5.form
        injection hv with _ _ h3
        rw [h3]
        exact ⟨by omega, h2⟩
      have hm5' : m5 = n1 + 1 := by rw [← hm5, List.length_append, List.length_reverse, List.length_take, HNX.out]; have := HNN.out; simp; omega
      have hel5 : Elems 1 intCs w5 (· < w5.heap.size) A5 ((xs.take n1).reverse ++ [3]) := by
        rw [HNX.out]; exact (ho5.elems intLay.len rfl).more fun k hk => (ho5.lt k hk).2
      have HT := Lib.hid (HTO.out A5 m5 c5 w5 hm5' hcap.1 hcap.2 hel5 hb5 hfr5)
      clear hb5 hcap hm5' hel5 ho5 hx5 hm5 hfr5
      refine HT.out.mono ?_
      rintro e w6 ⟨m', o', base, tb', hO', rfl, hT6, hb6, hf6⟩
      have HF := Lib.hid (And.intro hO' (And.intro hT6 (And.intro hb6 hf6)))
      clear hO' hT6 hb6 HT hf6
      go_wp2_with fail
      go_meet
      exact ⟨rfl, m', o', base, tb', HF.out.1, rfl, HF.out.2.1, HF.out.2.2⟩
    · have hm200 : m1 = 200 := by have := HNN.out; omega
      have hk : max (0 : Int) ((m1 : Int) - 199) = 1 := by omega
      obtain ⟨g, cur, hv1, hn', hbg, hg, hcl, hcm', hs, hx⟩ := HO4.out.ints (by have := HNN.out; simp; omega)
      have hgw3 : g < w3.heap.size := HA1.out g (by rw [hv1]; rfl)
      subst hv1
      rw [← hn'] at hcl
      have hc1 : ¬ (c1 = 1) := by omega
      have hx' : ∀ i (x : Int), (xs.take n1).reverse[i]? = some x → cur[1 + i]? = some (.int .i64 x) := fun i x hi => by
        refine hx (1 + i) x ?_
        have e := rev_drop xs
        rw [HNN.out.1, ← HNN.out.2.1, ← HNN.out.2.2.1, show m1 - 199 = 1 from by omega] at e
        rw [← e, List.getElem?_drop] at hi
        exact hi
      have HT5 := Lib.hid (run_push_tail (t := 22) elem_ints 22 (w4.alloc (.cells #[.int .i64 3] 3)) (base := w.heap.size) (b := g) (off := 1) (n := m1 - 1) (c := c1 - 1) (g := w4.heap.size) (cur := cur) (xs := (xs.take n1).reverse) (y := 3)
        ((Below.heap_alloc _ _ _ (Nat.lt_of_lt_of_le hgw3 HB34.out)).trans hg) hbg (by have := HB4.out.size; simp; omega) (by rw [List.length_reverse, ← HL1.out]; have := HNN.out; omega) (by omega) (by omega) hx' (heap_alloc_new w4 _) (by omega) (by omega))
      have HG := Lib.hid hgw3
      clear hg hbg hcl hcm' hs hx hx' hn' hgw3 hm200 h
      go_wp2_with (at_builtin; refine wpList_app rfl (.tmp 39) (.tmp 40) _ _ rfl rfl rfl HT5.out ?_; rintro v5 w5 ⟨⟨A5, c5, rfl, hc5, hcm5, hel5⟩, hb5, hfr5⟩)
      have HT := Lib.hid (HTO.out A5 (m1 - 1 + 1) c5 w5 (by have := HNN.out; omega) hc5 hcm5 hel5 (((Below.refl _ _).alloc HB4.out.size _).trans hb5) fun k h1 h2 => (hfr5 k (by simp; omega) (by have := HG.out; omega)).trans (Below.heap_alloc _ _ _ h2))
      clear hc5 hcm5 hel5 hb5 hfr5
      refine HT.out.mono ?_
      rintro e w6 ⟨m', o', base, tb', hO', rfl, hT6, hb6, hf6⟩
      have HF := Lib.hid (And.intro hO' (And.intro hT6 (And.intro hb6 hf6)))
      clear hO' hT6 hb6 HT hf6
      go_wp2_with fail
      go_meet
      exact ⟨rfl, m', o', base, tb', HF.out.1, rfl, HF.out.2.1, HF.out.2.2⟩
  case rest =>
    obtain ⟨rfl, m', o', base, tb', hO', rfl, hT5, hb5, hf5⟩ := hcut
    have hTa := HT4.out.frame hb5.size hf5
    have HL5 : Hid ((bld ([3] ++ xs.take n1) ([3] ++ xs.take n1).length).length ≤ 200 ∧ (bld ((xs.take n1).reverse ++ [3]) ((xs.take n1).reverse ++ [3]).length).length ≤ 200 ∧ 0 < (bld ([3] ++ xs.take n1) ([3] ++ xs.take n1).length).length) := Lib.hid (by
      have h1 := bld_len ([3] ++ xs.take n1) ([3] ++ xs.take n1).length
      have h2 := bld_len ((xs.take n1).reverse ++ [3]) ((xs.take n1).reverse ++ [3]).length
      have h3 := bld_pos ([3] ++ xs.take n1) (i := ([3] ++ xs.take n1).length) (by simp)
      have := HL1.out
      have := HNN.out
      simp only [List.length_append, List.length_reverse, List.length_cons, List.length_nil] at h1 h2
      exact ⟨by simp only [List.length_append, List.length_cons, List.length_nil]; omega, by simp only [List.length_append, List.length_reverse, List.length_cons, List.length_nil]; omega, h3⟩)
    have HEQ := Lib.hid (bld_rev (xs.take n1) hTa.ord hT5.ord)
    generalize bld ([3] ++ xs.take n1) ([3] ++ xs.take n1).length = ps at *
    generalize bld ((xs.take n1).reverse ++ [3]) ((xs.take n1).reverse ++ [3]).length = qs at *
    have HO2 := Lib.hid hO'
    have HTA := Lib.hid hTa
    have HTB := Lib.hid hT5
    have HBX := Lib.hid (HB4.out.trans hb5)
    have HEN := Lib.hid (entriesW HO1.out wc hTa (by have := HL5.out; omega))
    clear hO' hTa hT5 hb5 hf5 HT4 HO4
    go_wp2_with fail
    refine HEN.out.mono ?_
    rintro e w6 ⟨A6, n6, c6, ob6, es6, rfl, hn6, -, -, hcop6, -, hb6⟩
    have HB6 := Lib.hid (HBX.out.trans (hb6.mono HBX.out.size))
    have HC6 := Lib.hid hcop6
    have HEN2 := Lib.hid (entriesW HO2.out w6 (HTB.out.below hb6) (by have := HL5.out; omega))
    have HTA6 := Lib.hid (HTA.out.below hb6)
    have HN6 := Lib.hid hn6
    clear hcop6 hb6 HEN HTB HTA hn6
    go_wp2_with fail
    refine HEN2.out.mono ?_
    rintro e w7 ⟨A7, n7, c7, ob7, es7, rfl, hn7, -, -, hcop7, -, hb7⟩
    have HB7 := Lib.hid (HB6.out.trans (hb7.mono HB6.out.size))
    have HTA7 := Lib.hid (HTA6.out.below hb7)
    have HCALL : Hid (Calls Try.prog 17 #[.slice A6 n6 c6, .slice A7 n7 c7, .func (.func 19) #[] #[]] w7 fun e w'' => e = .returned (.bool true) ∧ Below w7.heap.size w7 w'') := Lib.hid (by
      have h6 := (HC6.out.below hb7).enr
      have l6 : es6.length = n6 := by
        have h := congrArg List.length HC6.out.eq
        rw [List.length_map] at h
        have := HN6.out
        omega
      have l7 : es7.length = n7 := by
        have h := congrArg List.length hcop7.eq
        rw [List.length_map] at h
        omega
      have hk : es6.map er = es7.map er := by
        have h := HEQ.out
        rw [← HC6.out.eq, ← hcop7.eq, List.map_map, List.map_map] at h
        exact h
      have hl : es6.length = es7.length := by
        have h := congrArg List.length hk
        rwa [List.length_map, List.length_map] at h
      have hcall := equalFuncW eqOrder A6 A7 c6 c7 es6 es7 w7 h6 hcop7.enr hl (by have := HL5.out; have := HN6.out; omega) hk (fun h => by cases h)
      rw [l6, l7] at hcall
      exact hcall)
    clear hcop7 hb7 HEN2 HTA6 HC6 hn7
    go_wp2_with fail
    refine HCALL.out.mono ?_
    rintro e w8 ⟨rfl, hb8⟩
    have HB8 := Lib.hid (HB7.out.trans (hb8.mono HB7.out.size))
    have HEN3 := Lib.hid (entriesW HO1.out w8 (HTA7.out.below hb8) (by have := HL5.out; omega))
    clear hb8 HTA7 HCALL
    go_wp2_with fail
    refine HEN3.out.mono ?_
    rintro e w9 ⟨A9, n9, c9, ob9, es9, rfl, hn9, -, -, -, -, hb9⟩
    have HB9 := Lib.hid (HB8.out.trans (hb9.mono HB8.out.size))
    have hpos : (0 : Int) < (n9 : Int) := by have := HL5.out; omega
    clear hb9 hn9 HEN3
    go_wp2_with fail
    go_ret
    exact ⟨by simp; omega, HB9.out⟩
end Go.Proofs.Ytlgjkhdpinnccaa
