/-
  The walk of the law BTreeDeleteInvertsPut.
-/
import Derived.Test.YtlgjkhdpinnccaaTfr
import Derived.Test.YtlgjkhdpinnccaaEf
import Derived.Test.YtlgjkhdpinnccaaBr
namespace Go.Proofs.Ytlgjkhdpinnccaa
open Go.RowKit Go.Sort

theorem cmpR_self (k : Row) : cmpR k k = 0 := by
  have h := getP_insP (k, 0) []
  have h' : (if cmpR k k < 0 then (none : Option Int) else if cmpR k k = 0 then some 0 else none) = some 0 := h
  split at h'
  · cases h'
  · split at h'
    · assumption
    · cases h'
theorem getP_delP (k : Row) : ∀ {ps : List PE}, OrdP ps → getP k (delP k ps) = none
  | [], _ => rfl
  | x :: xs, h => by
    obtain ⟨h1, h2⟩ := List.pairwise_cons.1 h
    have ih := getP_delP k h2
    unfold delP
    by_cases hx : cmpR x.1 k < 0
    · rw [if_pos hx]
      unfold getP
      rw [if_pos hx]
      exact ih
    · rw [if_neg hx]
      by_cases h0 : cmpR x.1 k = 0
      · rw [if_pos h0]
        have he := cmpR_zero h0
        cases xs with
        | nil => rfl
        | cons y ys =>
          have hlt : rl k y.1 := by rw [← he]; exact h1 y List.mem_cons_self
          have hn : ¬ cmpR y.1 k < 0 := rl_asymm hlt
          unfold getP
          rw [if_neg hn]
          by_cases hy : cmpR y.1 k = 0
          · have hyk := cmpR_zero hy
            rw [hyk] at hlt
            exact absurd hlt (rl_irrefl _)
          · rw [if_neg hy]
      · rw [if_neg h0]
        unfold getP
        rw [if_neg hx, if_neg h0]
theorem delP_insP (k : Row) (v : Int) : ∀ {ps : List PE}, getP k ps = none → delP k (insP (k, v) ps) = ps
  | [], _ => by
    show (if cmpR k k < 0 then _ else if cmpR k k = 0 then _ else _) = _
    rw [cmpR_self, if_neg (by omega), if_pos rfl]
  | x :: xs, h => by
    unfold getP at h
    unfold insP
    by_cases hx : cmpR x.1 k < 0
    · rw [if_pos hx] at h
      rw [if_pos hx]
      unfold delP
      rw [if_pos hx, delP_insP k v h]
    · rw [if_neg hx] at h
      rw [if_neg hx]
      by_cases h0 : cmpR x.1 k = 0
      · rw [if_pos h0] at h; cases h
      · rw [if_neg h0]
        show (if cmpR k k < 0 then _ else if cmpR k k = 0 then _ else _) = _
        rw [cmpR_self, if_neg (by omega), if_pos rfl]

set_option maxRecDepth 100000 in
theorem intRowN (k : Int) (w : World) (hk : -9223372036854775808 ≤ k ∧ k ≤ 9223372036854775807) :
    Calls Try.prog 11 #[.int .i64 k] w fun e w' => ∃ A, e = .returned (.slice A 1 1) ∧ Elems 3 Val.cs w' (fun i => w.heap.size ≤ i ∧ i < w'.heap.size) A (rowOf k) ∧ Below w.heap.size w w' := by
  have HM := Lib.hid (modW k 1000 w hk (by omega) (by omega))
  have HE : Hid (∀ W : World, Elems 3 Val.cs (W.alloc (.cells #[.int .i64 1, .int .i64 (md k 1000), .string ByteArray.empty] 54)) (fun i => W.heap.size ≤ i ∧ i < (W.alloc (.cells #[.int .i64 1, .int .i64 (md k 1000), .string ByteArray.empty] 54)).heap.size) (some ⟨W.heap.size, 0, none⟩) (rowOf k)) := Lib.hid fun W _ => ⟨W.heap.size, 0, rfl, by simp, fun i x hx j u hu => by
    have hi : i = 0 := by
      have := (List.getElem?_eq_some_iff.1 hx).1
      simp [rowOf] at this
      exact this
    subst hi
    simp [rowOf] at hx
    subst hx
    rw [cell_of_row _ _ _ _ _ (0, 0) (heap_alloc_new W _)]
    simp [Val.cs] at hu
    rw [← hu]
    simp⟩
  clear hk
  generalize hm : md k 1000 = m at *
  clear hm
  go_enter Try.func11, Try.ntmps11
  go_wp2_with fail
  refine HM.out.mono ?_
  rintro e w' ⟨rfl, rfl⟩
  go_wp2_with fail
  go_ret
  exact ⟨_, rfl, HE.out w, (Below.refl _ _).alloc (Nat.le_refl _) _⟩

set_option maxRecDepth 100000 in
set_option maxHeartbeats 4000000 in
theorem delput_law (or : Int) (A : Option Addr) (c : Nat) (xs : List Int) (k : Int) (w : World) (hor : I64 or) (hx : Elems 1 intCs w (· < w.heap.size) A xs) (hl : xs.length ≤ c) (hcm : c ≤ maxLen) (hok : ∀ x ∈ xs, I64 x) (_hsz : xs.length * 8 ≤ reachBytes) (hk : I64 k) :
    Calls Try.prog 8 #[.int .i64 or, .slice A xs.length c, .int .i64 k] w fun e w' => e = .returned (.bool true) ∧ Below w.heap.size w w' := by
  have HT := Lib.hid (treeOfW or A c xs w hor hx hl hcm hok)
  have HK := Lib.hid hk
  clear hor hx hok hk
  go_enter Try.func8, Try.ntmps8
  go_wp2_with fail
  refine HT.out.mono ?_
  rintro e w1 ⟨m, o, tb, hO, -, rfl, hT1, hb1⟩
  have hlen := bld_len xs (min xs.length 200)
  have hlen2 : (bld xs (min xs.length 200)).length ≤ 200 := by omega
  generalize bld xs (min xs.length 200) = ps at *
  have HO := Lib.hid hO
  have HT1 := Lib.hid hT1
  have HB1 := Lib.hid hb1
  have HIR := Lib.hid (intRowN k w1 HK.out)
  have HLP := Lib.hid hlen2
  clear hO hT1 hb1 hlen hlen2 HT
  go_wp2_with fail
  refine HIR.out.mono ?_
  rintro e w2 ⟨A2, rfl, hx2, hb2⟩
  have HB2 := Lib.hid (HB1.out.trans (hb2.mono HB1.out.size))
  have HD1 := Lib.hid (deleteW HO.out w2 (TreeF.of HT1.out HB1.out.size hb2) A2 1 (rowOf k) (hx2.more fun i hi => .inr hi) (rowOf_ok k) (by show 1 ≤ 12; omega) (by have := HLP.out; omega))
  clear hx2 hb2 HIR
  rw [show (rowOf k).length = 1 from rfl] at HD1
  go_wp2_with fail
  refine HD1.out.mono ?_
  rintro e w3 ⟨rfl, hT3, hf3⟩
  have hT3 : TreeF (· < w.heap.size) m o w3 tb (delP (rowOf k) ps) := hT3.sub fun k hk => .inl hk
  have hb3 : Below w.heap.size w2 w3 := hf3.below fun k hk => .inl hk
  have hg1 : getP (rowOf k) (delP (rowOf k) ps) = none := getP_delP _ HT1.out.ord
  have hl1 := len_delP (rowOf k) ps
  have hl2 : (delP (rowOf k) ps).length ≤ 200 := by
    have := HLP.out
    split at hl1 <;> omega
  generalize delP (rowOf k) ps = qs at *
  have HG1 := Lib.hid hg1
  have HQ := Lib.hid hl2
  have HT3 := Lib.hid hT3
  have HB3 := Lib.hid (HB2.out.trans hb3)
  have HEN := Lib.hid (entriesW HO.out w3 hT3.at_ (by omega))
  clear hg1 hl1 hl2 hT3 hb3 hf3 HD1
  generalize (if (getP (rowOf k) ps).isSome then (0 : Int) else 4) = r1 at *
  go_wp2_with fail
  refine HEN.out.mono ?_
  rintro e w4 ⟨A4, n4, c4, ob4, es4, rfl, hn4, -, -, -, -, hb4⟩
  have HT4 : Hid (TreeF (· < w.heap.size) m o w4 tb qs) := Lib.hid ((HT3.out.more hb4).sub fun k hk => .inl hk)
  have HB4 := Lib.hid (HB3.out.trans (hb4.mono HB3.out.size))
  have HST := Lib.hid (treeStatsW HO.out w4 HT4.out.at_ (by have := HQ.out; omega))
  rw [← hn4] at HST
  have hn4l : n4 ≤ 200 := by have := HQ.out; omega
  clear hb4 HEN hn4
  go_wp2_with fail
  refine HST.out.mono ?_
  rintro e w5 ⟨d5, x5, y5, rfl, -, hb5⟩
  have HT5 : Hid (TreeF (· < w.heap.size) m o w5 tb qs) := Lib.hid ((HT4.out.more hb5).sub fun k hk => .inl hk)
  have HB5 := Lib.hid (HB4.out.trans (hb5.mono HB4.out.size))
  have hfd := stats_entries
  have HEN := Lib.hid (entriesW HO.out w5 HT5.out.at_ (by have := HQ.out; omega))
  clear hb5 HST
  go_wp2_with fail
  refine HEN.out.mono ?_
  rintro e w6 ⟨A6, n6, c6, ob6, es6, rfl, hn6, -, -, hcop6, hob6, hb6⟩
  obtain ⟨F, hF⟩ : ∃ F : Nat → Prop, F = fun k => k < w.heap.size ∨ (w5.heap.size ≤ k ∧ k < w6.heap.size) := ⟨_, rfl⟩
  have hT6 : TreeF F m o w6 tb qs := by rw [hF]; exact HT5.out.more hb6
  have HF0 : Hid (∀ k, k < w.heap.size → F k) := Lib.hid fun k hk => by rw [hF]; exact .inl hk
  have HT6 := Lib.hid hT6
  have HB6 := Lib.hid (HB5.out.trans (hb6.mono HB5.out.size))
  have HE6 : Hid (Elems 2 Ent.cs w6 F A6 es6 ∧ ∀ e ∈ es6, KOk F w6 e.key) := Lib.hid ⟨(hcop6.own.elems entLay.len rfl).more fun k hk => by
      have := Own.lt hcop6.own k hk
      rw [hF]
      exact .inr ⟨by omega, this.2⟩, fun e he => (hcop6.row e he).more fun k hk => by
      rw [hF]
      exact .inr ⟨by omega, hk.2.1⟩⟩
  have HQ6 : Hid (es6.map pr = qs ∧ es6.length = n6 ∧ n6 ≤ 200) := Lib.hid ⟨hcop6.eq, by
    have h := congrArg List.length hcop6.eq
    rw [List.length_map] at h
    omega, by have := HQ.out; omega⟩
  have HIR := Lib.hid (intRowN k w6 HK.out)
  clear hcop6 hob6 hb6 hn6 HEN hfd hF hT6
  go_wp2_with fail
  refine HIR.out.mono ?_
  rintro e w7 ⟨A7, rfl, hx7, hb7⟩
  have HB7 := Lib.hid (HB6.out.trans (hb7.mono HB6.out.size))
  have hT7 : TreeF F m o w7 tb qs := (HT6.out.more hb7).sub fun k hk => .inl hk
  have HFR7 : Hid (Fr F w6 w7) := Lib.hid (Fr.of_below hb7 HT6.out.lt)
  have HP := Lib.hid (putF HO.out w7 hT7 A7 1 (rowOf k) 1 (hx7.more fun i hi => hi.2) (rowOf_ok k) (by show 1 ≤ 12; omega) (by have := HQ.out; omega))
  clear hx7 hb7 HIR hT7
  rw [show (rowOf k).length = 1 from rfl] at HP
  go_wp2_with fail
  refine HP.out.mono ?_
  rintro e w8 ⟨rfl, hT8, hf8⟩
  rw [HG1.out]
  have HG8 : Hid (getP (rowOf k) (insP (rowOf k, 1) qs) = some 1) := Lib.hid (getP_insP (rowOf k, 1) qs)
  have HD8 : Hid (delP (rowOf k) (insP (rowOf k, 1) qs) = qs) := Lib.hid (delP_insP (rowOf k) 1 HG1.out)
  have HL8 : Hid ((insP (rowOf k, 1) qs).length ≤ 201) := Lib.hid (by
    have h := len_insP (rowOf k, 1) qs
    have := HQ.out
    split at h <;> omega)
  have HT8 := Lib.hid hT8
  have HFR8 := Lib.hid (HFR7.out.trans hf8)
  have HIR := Lib.hid (intRowN k w8 HK.out)
  have HB8 := Lib.hid (HB7.out.trans (hf8.below HF0.out))
  clear hT8 hf8 HP
  go_wp2_with fail
  refine HIR.out.mono ?_
  rintro e w9 ⟨A9, rfl, hx9, hb9⟩
  have HB9 := Lib.hid (HB8.out.trans (hb9.mono HB8.out.size))
  have HFR9 : Hid (Fr F w6 w9) := Lib.hid (HFR8.out.trans (Fr.of_below hb9 HT8.out.lt))
  have hD9 := deleteW HO.out w9 (HT8.out.more hb9) A9 1 (rowOf k) (hx9.more fun i hi => .inr hi) (rowOf_ok k) (by show 1 ≤ 12; omega) (by have := HL8.out; omega)
  have HD9 : Hid (Calls Try.prog 25 #[ptr tb, .slice A9 1 1] w9 fun e w' => e = .returned (.int .i64 0) ∧ TreeF F m o w' tb qs ∧ Fr F w9 w') := Lib.hid (hD9.mono fun e w' h => by
    obtain ⟨h1, h2, h3⟩ := h
    rw [HG8.out] at h1
    rw [HD8.out] at h2
    exact ⟨h1, h2.sub fun k hk => .inl hk, h3.sub fun k hk => .inl hk⟩)
  clear hx9 hb9 HIR hD9 HG8 HD8 HL8 HT8
  go_wp2_with fail
  refine HD9.out.mono ?_
  rintro e wa ⟨rfl, hTa, hfa⟩
  have HFRa : Hid (Fr F w6 wa) := Lib.hid (HFR9.out.trans hfa)
  have HBa := Lib.hid (HB9.out.trans (hfa.below HF0.out))
  have HEN := Lib.hid (entriesW HO.out wa hTa.at_ (by have := HQ.out; omega))
  have HTa := Lib.hid hTa
  clear hTa hfa HD9
  go_wp2_with fail
  refine HEN.out.mono ?_
  rintro e wb ⟨Ab, nb, cb, obb, esb, rfl, hnb, -, -, hcopb, -, hbb⟩
  have HBb := Lib.hid (HBa.out.trans (hbb.mono HBa.out.size))
  have HFIN : Hid (Calls Try.prog 17 #[.slice A6 n6 c6, .slice Ab nb cb, .func (.func 26) #[] #[]] wb fun e w'' => e = .returned (.bool true) ∧ Below wb.heap.size wb w'') := Lib.hid (by
    have hfr : Fr F w6 wb := HFRa.out.trans (Fr.of_below hbb HTa.out.lt)
    have hlt : ∀ k, F k → k < wb.heap.size := fun k hk => Nat.lt_of_lt_of_le (HT6.out.lt k hk) hfr.size
    have h6 : EnR wb A6 es6 := ⟨(HE6.out.1.keep hfr.keeps).more hlt, fun e he => ((HE6.out.2 e he).keep hfr.keeps).more hlt⟩
    have hmap : es6.map pr = esb.map pr := by rw [HQ6.out.1, hcopb.eq]
    have hlb : esb.length = nb := by
      have h := congrArg List.length hcopb.eq
      rw [List.length_map] at h
      omega
    have hlen : es6.length = esb.length := by
      have h := congrArg List.length hmap
      rwa [List.length_map, List.length_map] at h
    have hrv := map_pr_row hmap
    have hcall := equalFuncW eqDelete A6 Ab c6 cb es6 esb wb h6 hcopb.enr hlen (by have := HQ6.out; omega) hrv.1 (fun _ => hrv.2)
    rw [HQ6.out.2.1, hlb] at hcall
    exact hcall)
  clear hcopb hbb hnb HEN
  go_wp2_with fail
  refine HFIN.out.mono ?_
  rintro e wc ⟨rfl, hbc⟩
  have HBF := Lib.hid (HBb.out.trans (hbc.mono HBb.out.size))
  clear hbc
  go_wp2_with fail
  go_ret
  exact ⟨rfl, HBF.out⟩
end Go.Proofs.Ytlgjkhdpinnccaa
