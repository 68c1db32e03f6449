/-
  The walk of the law BTreeRangeConcatenates.
-/
import Derived.Test.YtlgjkhdpinnccaaTr3
import Derived.Test.YtlgjkhdpinnccaaBi
namespace Go.Proofs.Ytlgjkhdpinnccaa
open Go.RowKit Go.Sort

theorem key_insP (p : PE) : ∀ (ps : List PE), p.1 ∈ (insP p ps).map Prod.fst ∧ ∀ x ∈ ps, x.1 ∈ (insP p ps).map Prod.fst
  | [] => ⟨by simp [insP], fun x hx => by cases hx⟩
  | x :: xs => by
    have ih := key_insP p xs
    unfold insP
    by_cases h1 : cmpR x.1 p.1 < 0
    · rw [if_pos h1]
      refine ⟨by simp only [List.map_cons]; exact List.mem_cons_of_mem _ ih.1, fun y hy => ?_⟩
      simp only [List.map_cons]
      rcases List.mem_cons.1 hy with rfl | hy
      · exact List.mem_cons_self
      · exact List.mem_cons_of_mem _ (ih.2 y hy)
    · rw [if_neg h1]
      by_cases h2 : cmpR x.1 p.1 = 0
      · rw [if_pos h2]
        have he := cmpR_zero h2
        refine ⟨by simp [he], fun y hy => ?_⟩
        simp only [List.map_cons]
        rcases List.mem_cons.1 hy with rfl | hy
        · exact List.mem_cons_self
        · exact List.mem_cons_of_mem _ (List.mem_map_of_mem hy)
      · rw [if_neg h2]
        exact ⟨by simp, fun y hy => List.mem_map_of_mem (List.mem_cons_of_mem _ hy)⟩
theorem key_bld (xs : List Int) : ∀ (i j : Nat), j < i → rowOf (xs.getD j 0) ∈ (bld xs i).map Prod.fst
  | i + 1, j, h => by
    have hk := key_insP (rowOf (xs.getD i 0), (i : Int)) (bld xs i)
    rcases Nat.lt_or_eq_of_le (Nat.le_of_lt_succ h) with h' | h'
    · obtain ⟨x, hx, he⟩ := List.mem_map.1 (key_bld xs i j h')
      rw [← he]
      exact hk.2 x hx
    · rw [h']
      exact hk.1
theorem two_le {α : Type} {l : List α} {a b : α} (ha : a ∈ l) (hb : b ∈ l) (hne : a ≠ b) : 2 ≤ l.length := by
  match l, ha, hb with
  | [x], ha, hb =>
    simp at ha hb
    exact absurd (ha.trans hb.symm) hne
  | _ :: _ :: _, _, _ => simp

theorem filter_parts (k : Row) : ∀ {ps : List PE}, OrdP ps → (ps.filter fun p => decide (cmpR p.1 k < 0)) ++ (ps.filter fun p => decide (¬ cmpR p.1 k < 0)) = ps
  | [], _ => rfl
  | x :: xs, h => by
    obtain ⟨h1, h2⟩ := List.pairwise_cons.1 h
    by_cases hx : cmpR x.1 k < 0
    · rw [List.filter_cons, if_pos (by simpa using hx), List.filter_cons, if_neg (by simpa using hx), List.cons_append, filter_parts k h2]
    · have hall : ∀ y ∈ x :: xs, ¬ cmpR y.1 k < 0 := fun y hy => by
        rcases List.mem_cons.1 hy with rfl | hy
        · exact hx
        · have h3 := rl_asymm (rl_le_lt (a := k) (b := x.1) (c := y.1) hx (h1 y hy))
          exact h3
      rw [List.filter_eq_nil_iff.2 fun y hy => by simpa using hall y hy, List.nil_append, List.filter_eq_self.2 fun y hy => by simpa using hall y hy]

def topRow : Row := [⟨3, 0, ByteArray.empty⟩]
theorem topRow_ok : rErr topRow = 0 := by
  have hv : Val.err ⟨3, 0, ByteArray.empty⟩ = 0 := by
    show vErr 3 0 ByteArray.empty = 0
    unfold vErr
    rw [if_neg (by omega), if_neg (by omega), if_pos rfl, if_neg (by omega), if_neg (by decide +kernel)]
  unfold rErr topRow
  rw [if_neg (by simp)]
  unfold rErrs
  rw [if_pos hv]
  rfl
theorem lt_top (k : Int) : cmpR (rowOf k) topRow < 0 := by
  unfold rowOf topRow
  rw [cmpR_cons]
  have hv : cmpV ⟨1, md k 1000, ByteArray.empty⟩ ⟨3, 0, ByteArray.empty⟩ = if cmpI 1 3 = 0 then (if cmpI (md k 1000) 0 = 0 then Lib.compareBytes ByteArray.empty.data.toList ByteArray.empty.data.toList else cmpI (md k 1000) 0) else cmpI 1 3 := rfl
  have h13 : cmpI 1 3 = -1 := rfl
  rw [h13, if_neg (by omega)] at hv
  rw [hv]
  simp
theorem range_all (k : Int) {ps : List PE} (ho : OrdP ps) (hk : ∀ p ∈ ps, ∃ z : Int, p.1 = rowOf z) : rangeP [] (rowOf k) ps ++ rangeP (rowOf k) topRow ps = ps := by
  have h1 : (ps.filter fun p => decide (¬ cmpR p.1 [] < 0)) = ps := List.filter_eq_self.2 fun p _ => by
    rw [cmpR_nil_right]
    unfold cmpI
    simp
    split <;> omega
  have h2 : rangeP (rowOf k) topRow ps = ps.filter fun p => decide (¬ cmpR p.1 (rowOf k) < 0) := List.filter_eq_self.2 fun p hp => by
    obtain ⟨z, hz⟩ := hk p (List.mem_filter.1 hp).1
    rw [hz]
    simpa using lt_top z
  rw [h2]
  unfold rangeP
  rw [h1]
  exact filter_parts (rowOf k) ho

theorem map_pr_row {xs ys : List Ent} (h : xs.map pr = ys.map pr) : xs.map er = ys.map er ∧ xs.map Ent.val = ys.map Ent.val := by
  have h1 := congrArg (List.map Prod.fst) h
  have h2 := congrArg (List.map Prod.snd) h
  rw [List.map_map, List.map_map] at h1 h2
  exact ⟨h1, h2⟩

set_option maxRecDepth 100000 in
set_option maxHeartbeats 4000000 in
theorem ranges_law (or : Int) (A : Option Addr) (c : Nat) (xs : List Int) (k : Int) (w : World) (hor : I64 or) (hx : Elems 1 intCs w (· < w.heap.size) A xs) (_hl : xs.length ≤ c) (_hcm : c ≤ maxLen) (hok : ∀ x ∈ xs, I64 x) (hsz : xs.length * 8 ≤ reachBytes) (hk : I64 k) :
    Calls Try.prog 7 #[.int .i64 or, .slice A xs.length c, .int .i64 k] w fun e w' => e = .returned (.bool true) ∧ Below w.heap.size w w' := by
  unfold reachBytes at hsz
  have H1 : Hid ((([1, 500] : List Int).length + xs.length) * 8 ≤ 140737488355328) := Lib.hid (by simp; omega)
  have H2 : Hid (([1, 500] : List Int).length + xs.length ≤ maxLen) := Lib.hid (by unfold maxLen; simp; omega)
  have HX := Lib.hid (hx.keep (w' := w.alloc (.cells #[.int .i64 1, .int .i64 500] 3)) fun k hk => Below.heap_alloc _ _ _ hk)
  have HO := Lib.hid (two_own w 1 500)
  have hB : w.heap.size ≤ (w.alloc (.cells #[.int .i64 1, .int .i64 500] 3)).heap.size := by simp
  have HKK : Hid (∀ n ∈ [1, 500] ++ xs, I64 n) := Lib.hid fun n hn => by
    rcases List.mem_append.1 hn with h | h
    · simp at h
      rcases h with rfl | rfl <;> (unfold I64; omega)
    · exact hok n h
  have HOR := Lib.hid hor
  have HK := Lib.hid hk
  clear hor hx hok hsz hk
  go_enter Try.func7, Try.ntmps7
  go_wp2_with (at_builtin; refine wpList_app rfl (.tmp 16) (.tmp 17) _ _ rfl rfl rfl (run_pushs elem_ints intLay _ (w.alloc (.cells #[.int .i64 1, .int .i64 500] 3)) _ [1, 500] HO.out HX.out rfl H1.out H2.out hB) ?_; rintro v2 w2 ⟨ho2, hx2⟩; obtain ⟨A2, m2, c2, rfl, hm2⟩ := ho2.form')
  have hb2 : Below w.heap.size w w2 := ((Below.refl _ _).alloc (Nat.le_refl _) _).trans (hx2.below (base := w.heap.size) hB (fun g hg => Nat.le_of_eq (Option.some.inj hg)))
  have hcap : ([1, 500] ++ xs).length ≤ c2 ∧ c2 ≤ maxLen := by
    obtain ⟨A3, c3, hv, h1, h2⟩ := ho2.form
    injection hv with _ _ h3
    rw [h3]
    exact ⟨h1, h2⟩
  have HT0 := treeOfW or A2 c2 ([1, 500] ++ xs) w2 HOR.out ((ho2.elems intLay.len rfl).more fun k hk => (ho2.lt k hk).2) hcap.1 hcap.2 HKK.out
  rw [hm2] at HT0
  have HT := Lib.hid HT0
  have HB2 := Lib.hid hb2
  clear HT0 hcap hb2 ho2 hx2 hm2
  refine HT.out.mono ?_
  rintro e w3 ⟨m, o, tb, hO, -, rfl, hT3, hb3⟩
  have hlen := bld_len ([1, 500] ++ xs) (min ([1, 500] ++ xs).length 200)
  have hlen2 : (bld ([1, 500] ++ xs) (min ([1, 500] ++ xs).length 200)).length ≤ 200 := by omega
  have hkeys := bld_keys ([1, 500] ++ xs) (min ([1, 500] ++ xs).length 200)
  have h2le : 2 ≤ (bld ([1, 500] ++ xs) (min ([1, 500] ++ xs).length 200)).length := by
    have h1 := key_bld ([1, 500] ++ xs) (min ([1, 500] ++ xs).length 200) 0 (by simp; omega)
    have h2 := key_bld ([1, 500] ++ xs) (min ([1, 500] ++ xs).length 200) 1 (by simp; omega)
    have h3 := two_le h1 h2 (by
      show rowOf 1 ≠ rowOf 500
      intro e
      have : (1 : Nat) = 500 := by
        have h4 : md 1 1000 = md 500 1000 := by
          unfold rowOf at e
          injection e with e
          injection e with _ e _
          exact Int.ofNat.inj e
        exact h4
      omega)
    rwa [List.length_map] at h3
  generalize bld ([1, 500] ++ xs) (min ([1, 500] ++ xs).length 200) = ps at *
  have HO3 := Lib.hid hO
  have HT3 := Lib.hid hT3
  have HB3 := Lib.hid (HB2.out.trans (hb3.mono HB2.out.size))
  have HALL := Lib.hid (range_all k hT3.ord hkeys)
  have HIR := Lib.hid (intRowW k w3 HK.out)
  clear hO hT3 hb3 hlen HT hkeys
  go_wp2_with fail
  refine HIR.out.mono ?_
  rintro e w4 ⟨A4, rfl, hx4, -, hb4⟩
  have HR1 := Lib.hid (rangeW HO3.out w4 (HT3.out.below hb4) (by omega) none 0 [] (fun h => by simp at h) rfl (by simp) A4 1 (rowOf k) hx4 (rowOf_ok k) (by show 1 ≤ 12; omega))
  have HT4 := Lib.hid (HT3.out.below hb4)
  have HB4 := Lib.hid (HB3.out.trans (hb4.mono HB3.out.size))
  clear hx4 hb4 HIR
  rw [show (rowOf k).length = 1 from rfl, show ([] : Row).length = 0 from rfl] at HR1
  go_wp2_with fail
  refine HR1.out.mono ?_
  rintro e w5 ⟨A5, n5, c5, ob5, es5, rfl, hn5, -, -, hcop5, -, hb5⟩
  have HT5 := Lib.hid (HT4.out.below hb5)
  have HE5 := Lib.hid hcop5.enr
  have HQ5 : Hid (es5.map pr = rangeP [] (rowOf k) ps ∧ es5.length = n5) := Lib.hid ⟨hcop5.eq, by
    have h := congrArg List.length hcop5.eq
    rw [List.length_map] at h
    omega⟩
  have HB5 := Lib.hid (HB4.out.trans (hb5.mono HB4.out.size))
  have HIR := Lib.hid (intRowW k w5 HK.out)
  clear hcop5 hb5 hn5 HR1
  go_wp2_with fail
  refine HIR.out.mono ?_
  rintro e w6 ⟨A6, rfl, hx6, -, hb6⟩
  obtain ⟨w7, hw7⟩ : ∃ w7, w7 = w6.alloc (.cells #[.int .i64 3, .int .i64 0, .string ⟨#[]⟩] 54) := ⟨_, rfl⟩
  have hb7 : Below w6.heap.size w6 w7 := by rw [hw7]; exact (Below.refl _ _).alloc (Nat.le_refl _) _
  have htop : Elems 3 Val.cs w7 (· < w7.heap.size) (some ⟨w6.heap.size, 0, none⟩) topRow := fun _ => ⟨w6.heap.size, 0, rfl, by rw [hw7]; simp, fun i x hx j u hu => by
    have hi : i = 0 := by
      have := (List.getElem?_eq_some_iff.1 hx).1
      simp [topRow] at this
      exact this
    subst hi
    simp [topRow] at hx
    subst hx
    rw [hw7, cell_of_row _ _ _ _ _ (0, 0) (heap_alloc_new w6 _)]
    have hj : j < 3 := (List.getElem?_eq_some_iff.1 hu).1
    rcases j with _ | _ | _ | j
    · exact hu
    · exact hu
    · exact hu
    · omega⟩
  have hx7 : Elems 3 Val.cs w7 (· < w7.heap.size) A6 (rowOf k) := (hx6.keep (Keeps.of_below hb7 fun _ h => h)).more fun k hk => Nat.lt_of_lt_of_le hk hb7.size
  have hb57 : Below w5.heap.size w5 w7 := hb6.trans (hb7.mono hb6.size)
  have HR2 := Lib.hid (rangeW HO3.out w7 (HT5.out.below hb57) (by omega) A6 1 (rowOf k) hx7 (rowOf_ok k) (by show 1 ≤ 12; omega) (some ⟨w6.heap.size, 0, none⟩) 1 topRow htop topRow_ok (by show 1 ≤ 12; omega))
  have HT7 := Lib.hid (HT5.out.below hb57)
  have HE7 := Lib.hid (HE5.out.below hb57)
  have HB7 := Lib.hid (HB5.out.trans (hb57.mono HB5.out.size))
  have HW7 := Lib.hid hw7
  clear hx6 hb6 hb7 htop hx7 hb57 hw7 HIR
  rw [show (rowOf k).length = 1 from rfl, show topRow.length = 1 from rfl] at HR2
  go_wp2_with fail
  rw [← HW7.out]
  refine HR2.out.mono ?_
  rintro e w8 ⟨A8, n8, c8, ob8, es8, rfl, hn8, -, -, hcop8, -, hb8⟩
  have HT8 := Lib.hid (HT7.out.below hb8)
  have HE58 := Lib.hid (HE7.out.below hb8)
  have HE8 := Lib.hid hcop8.enr
  have HQ8 : Hid (es8.map pr = rangeP (rowOf k) topRow ps ∧ es8.length = n8) := Lib.hid ⟨hcop8.eq, by
    have h := congrArg List.length hcop8.eq
    rw [List.length_map] at h
    omega⟩
  have HB8 := Lib.hid (HB7.out.trans (hb8.mono HB7.out.size))
  have HEN := Lib.hid (entriesW HO3.out w8 HT8.out (by omega))
  clear hcop8 hb8 hn8 HR2
  go_wp2_with fail
  refine HEN.out.mono ?_
  rintro e w9 ⟨A9, n9, c9, ob9, es9, rfl, hn9, hcl9, -, hcop9, -, hb9⟩
  have HE9 := Lib.hid hcop9.enr
  have HQ9 : Hid (es9.map pr = ps ∧ es9.length = n9) := Lib.hid ⟨hcop9.eq, by
    have h := congrArg List.length hcop9.eq
    rw [List.length_map] at h
    omega⟩
  have hn2 : (2 : Int) ≤ (n9 : Int) := by omega
  have HB9 := Lib.hid (HB8.out.trans (hb9.mono HB8.out.size))
  have h200 : n9 ≤ 200 := by omega
  obtain ⟨wa, hwa⟩ : ∃ wa, wa = w9.alloc (.cells #[.slice A5 n5 c5, .slice A8 n8 c8] 43) := ⟨_, rfl⟩
  have hba : Below w9.heap.size w9 wa := by rw [hwa]; exact (Below.refl _ _).alloc (Nat.le_refl _) _
  have HCON : Hid (Calls Try.prog 23 #[.slice (some ⟨w9.heap.size, 0, none⟩) 2 2] wa fun e w' => ∃ v, e = .returned v ∧ Own 2 Ent.cs 45 wa.heap.size w' v (es5 ++ es8) ∧ Below wa.heap.size wa w') := Lib.hid (by
    have hel : Elems 1 Hdr.cs wa (· < wa.heap.size) (some ⟨w9.heap.size, 0, none⟩) [⟨A5, c5, es5⟩, ⟨A8, c8, es8⟩] := fun _ => ⟨w9.heap.size, 0, rfl, by rw [hwa]; simp, fun i x hx j u hu => by
      rw [hwa, cell_of_row _ _ _ _ _ (0, 0) (heap_alloc_new w9 _)]
      have hi : i < 2 := by
        have := (List.getElem?_eq_some_iff.1 hx).1
        simpa using this
      have hj : j < 1 := (List.getElem?_eq_some_iff.1 hu).1
      obtain rfl : j = 0 := by omega
      rcases i with _ | _ | i
      · simp at hx
        subst hx
        rw [← hu]
        simp [Hdr.cs, HQ5.out.2]
      · simp at hx
        subst hx
        rw [← hu]
        simp [Hdr.cs, HQ8.out.2]
      · omega⟩
    have h5 := (HE58.out.below hb9).below hba
    have h8 := (HE8.out.below hb9).below hba
    have hlen : es5.length + es8.length ≤ 1000 := by
      have h := congrArg List.length HALL.out
      rw [List.length_append, ← HQ5.out.1, ← HQ8.out.1, List.length_map, List.length_map] at h
      omega
    have := concat (some ⟨w9.heap.size, 0, none⟩) 2 [⟨A5, c5, es5⟩, ⟨A8, c8, es8⟩] wa hel (fun h hh => by
      simp at hh
      rcases hh with rfl | rfl
      · exact h5.el
      · exact h8.el) (by simp) (by simp [Hdr.all]; omega)
    simpa [Hdr.all] using this)
  have HFIN : Hid (∀ (v : Value) (w' : World), Own 2 Ent.cs 45 wa.heap.size w' v (es5 ++ es8) → Below wa.heap.size wa w' → ∃ Ar cr, v = .slice Ar n9 cr ∧ Calls Try.prog 17 #[.slice Ar n9 cr, .slice A9 n9 c9, .func (.func 24) #[] #[]] w' fun e w'' => e = .returned (.bool true) ∧ Below w.heap.size w w'') := Lib.hid fun v w' ho hb => by
    obtain ⟨Ar, cr, rfl, -, -⟩ := ho.form
    have hmap : (es5 ++ es8).map pr = es9.map pr := by rw [List.map_append, HQ5.out.1, HQ8.out.1, HALL.out, HQ9.out.1]
    have hlen : (es5 ++ es8).length = n9 := by
      have h := congrArg List.length hmap
      rw [List.length_map, List.length_map, HQ9.out.2] at h
      exact h
    have h5 := (((HE58.out.below hb9).below hba).below hb)
    have h8 := (((HE8.out.below hb9).below hba).below hb)
    have h9 := ((HE9.out.below hba).below hb)
    have hEn : EnR w' Ar (es5 ++ es8) := ⟨(ho.elems entLay.len rfl).more fun k hk => (Own.lt ho k hk).2, fun e he => by
      rcases List.mem_append.1 he with he | he
      · exact h5.row e he
      · exact h8.row e he⟩
    have hrv := map_pr_row hmap
    have hcall := equalFuncW eqRange Ar A9 cr c9 (es5 ++ es8) es9 w' hEn h9 (by rw [hlen, HQ9.out.2]) (by omega) hrv.1 (fun _ => hrv.2)
    rw [hlen, HQ9.out.2] at hcall
    rw [hlen]
    refine ⟨Ar, cr, rfl, hcall.mono ?_⟩
    rintro e w'' ⟨rfl, hb''⟩
    have hb1 := HB9.out.trans (hba.mono HB9.out.size)
    have hb2 := hb1.trans (hb.mono hb1.size)
    exact ⟨rfl, hb2.trans (hb''.mono hb2.size)⟩
  have HWA := Lib.hid hwa
  clear hcop9 hb9 hn9 hba hwa HEN
  go_wp2_with fail
  rw [← HWA.out]
  refine HCON.out.mono ?_
  rintro e wb ⟨v, rfl, hob, hbb⟩
  obtain ⟨Ar, cr, rfl, hcall⟩ := HFIN.out v wb hob hbb
  have HCALL := Lib.hid hcall
  clear hob hbb hcall
  go_wp2_with fail
  refine HCALL.out.mono ?_
  rintro e wf ⟨rfl, hbf⟩
  have HBF := Lib.hid hbf
  clear hbf
  go_wp2_with fail
  go_ret
  exact ⟨rfl, HBF.out⟩
end Go.Proofs.Ytlgjkhdpinnccaa
