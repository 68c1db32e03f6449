/-
  The walk of the law SlottedPageCompactKeepsContents.
-/
import Derived.Test.YtalgocjhcgmdlaaPl2
namespace Go.Proofs.Ytalgocjhcgmdlaa
open Go.RowKit

set_option maxRecDepth 100000 in
set_option maxHeartbeats 4000000 in
theorem compact_law (A : Option Addr) (c : Nat) (xs : List Int) (A' : Option Addr) (c' : Nat) (ys : List Int) (w : World) (hx : Elems 1 intCs w (· < w.heap.size) A xs) (_hlc : xs.length ≤ c) (_hc : c ≤ maxLen) (hok : ∀ n ∈ xs, I64 n) (hsz : xs.length * 8 ≤ reachBytes) (hy : Elems 1 intCs w (· < w.heap.size) A' ys) (hlc' : ys.length ≤ c') (hc' : c' ≤ maxLen) (hok' : ∀ n ∈ ys, I64 n) :
    Calls Try.prog 7 #[.slice A xs.length c, .slice A' ys.length c'] w fun e w' => e = .returned (.bool true) ∧ Below w.heap.size w w' := by
  unfold reachBytes at hsz
  have H1 : Hid ((([5] : List Int).length + xs.length) * 8 ≤ 140737488355328) := Lib.hid (by simp; omega)
  have H2 : Hid (([5] : List Int).length + xs.length ≤ maxLen) := Lib.hid (by unfold maxLen; simp; omega)
  have HX := Lib.hid (hx.keep (w' := w.alloc (.cells #[.int .i64 5] 3)) fun k hk => Below.heap_alloc _ _ _ hk)
  have HO := Lib.hid (five_own w)
  have hB : w.heap.size ≤ (w.alloc (.cells #[.int .i64 5] 3)).heap.size := by simp
  have HY := Lib.hid hy
  have HYK := Lib.hid hok'
  unfold maxLen at hc'
  have hyc : (ys.length : Int) ≤ (c' : Int) := by omega
  have HK5 : Hid (∀ n ∈ [5] ++ xs, I64 n) := Lib.hid fun n hn => by
    rcases List.mem_append.1 hn with h | h
    · simp at h; subst h; unfold I64; omega
    · exact hok n h
  have HN : Hid (xs.length = xs.length) := Lib.hid rfl
  clear hx hok hsz hy hok'
  by_cases h4 : ys.length ≤ 20
  · have hmin2 : min (ys.length : Int) 20 = (ys.length : Int) := by omega
    have hNN : ∀ k, k < ys.length → k < ys.length := fun k h => h
    go_enter Try.func7, Try.ntmps7
    go_wp2_with (at_builtin; refine wpList_app rfl (.tmp 20) (.tmp 21) _ _ rfl rfl rfl (run_pushs elem_ints intLay _ (w.alloc (.cells #[.int .i64 5] 3)) _ [5] HO.out HX.out HN.out H1.out H2.out hB) ?_; rintro v2 w2 ⟨ho2, hx2⟩; obtain ⟨A2, m2, c2, rfl, hm2⟩ := ho2.form')
    have hb2 : Below w.heap.size w w2 := ((Below.refl _ _).alloc (Nat.le_refl _) _).trans (hx2.below (base := w.heap.size) hB (fun g hg => Nat.le_of_eq (Option.some.inj hg)))
    have hcap2 : ([5] ++ xs).length ≤ c2 ∧ c2 ≤ maxLen := by
      obtain ⟨A3, c3, hv, h1, h2⟩ := ho2.form
      injection hv with _ _ h3
      rw [h3]
      exact ⟨h1, h2⟩
    have HF0 := filledPage A2 c2 ([5] ++ xs) w2 ((ho2.elems intLay.len rfl).more fun k hk => (ho2.lt k hk).2) hcap2.1 hcap2.2 HK5.out
    have hmin : 0 < min ([5] ++ xs).length 60 ∧ min ([5] ++ xs).length 60 ≤ 60 := by simp; omega
    rw [hm2] at HF0 hmin
    have HF := Lib.hid HF0
    have HB2 := Lib.hid hb2
    clear HF0 hcap2 hb2 ho2 hx2 hm2
    generalize min m2 60 = kk at *
    refine HF.out.mono ?_
    rintro e w3 ⟨p, g, c3, b, rfl, hfi⟩
    have hfp : FP w w3 b p g c3 := ⟨hfi.pg.mono HB2.out.size, hfi.wf, hfi.mp.mono hmin.2, HB2.out.trans (hfi.below.mono HB2.out.size), Nat.le_trans HB2.out.size hfi.hb⟩
    have HFP := Lib.hid hfp
    clear hfi hfp hmin HF HB2
    go_wp2_with fail
    go_loopw [5, 35] (fun v i wr => ∃ (k g1 c1 : Nat) (q : List Nat), k ≤ ys.length ∧ i = .int .i64 k ∧ v = .slice (some ⟨g1, 0, none⟩) 256 c1 ∧ FP w wr b q g1 c1) (fun _ i _ => ys.length - (intOf i).toNat)
    case atStart => exact ⟨0, _, _, _, by omega, rfl, rfl, HFP.out⟩
    case round =>
      obtain ⟨k, g1, c1, q, hk, rfl, rfl, hfq⟩ := hrel
      clear HFP
      by_cases hlt : k < ys.length
      · have hky := hNN k hlt
        obtain ⟨by_, off, rfl, hbs, c0⟩ := (HY.out.keep (Keeps.of_below hfq.below fun _ h => h)).int hky
        have HMD := Lib.hid fun W => mod_any ys[k] 60 W (HYK.out _ (List.getElem_mem hky)) (by omega) (by omega)
        have HFQ := Lib.hid hfq
        have HDL := Lib.hid fun (m : Nat) (hm : m ≤ 1000) => deletePage wr hfq.pg hfq.wf m hm
        unfold DelPost at HDL
        clear hfq hbs
        generalize ys[k]'hky = x at *
        go_wp2_with fail
        refine (HMD.out wr).mono ?_
        rintro e w4 ⟨m, rfl, hm, rfl⟩
        have HD2 := Lib.hid (HDL.out m (by omega))
        have hm6 : m ≤ 1000000 := by omega
        clear HDL HMD c0
        go_wp2_with fail
        refine HD2.out.mono ?_
        rintro e w5 ⟨hb5, hcase⟩
        have HF5 := Lib.hid (HFQ.out.keep hb5)
        by_cases hs : (cont q m).isSome = true
        · rw [if_pos hs] at hcase
          obtain ⟨g5, c5, rfl, hp5⟩ := hcase
          have hmq : m < B q 0 := by
            cases hc : cont q m with
            | none => rw [hc] at hs; cases hs
            | some r => exact (cont_of hc).1
          have HP5 := Lib.hid (hp5.mono HFQ.out.below.size)
          have HCR := Lib.hid fun j => cont_rem HFQ.out.wf hmq j
          have HWR := Lib.hid (rem_spec HFQ.out.wf hmq).1
          have HCM := Lib.hid hs
          clear hb5 hp5 HD2 hmq hs
          go_wp2_with (at_delete; refine wpList_mpdel rfl (.tmp 50) (.tmp 51) rfl (p := q) (p' := rem q m) rfl rfl HF5.out.mp hm6 HCM.out HCR.out ?_; intro w6 hm6' hg6)
          have HF6 := Lib.hid (HF5.out.turned HP5.out HWR.out hg6 hm6' (Nat.le_refl _))
          clear hm6' hg6
          first
            | (go_roundw
               case rel => exact ⟨k + 1, g5, c5, rem q m, by omega, by go_num, rfl, HF6.out⟩
               case measure => simp [intOf]; omega)
            | (exact ⟨⟨k + 1, g5, c5, rem q m, by omega, by go_num, rfl, HF6.out⟩, by simp [intOf]; omega⟩)
        · rw [if_neg hs] at hcase
          subst hcase
          clear hb5 HD2 hs
          go_wp2_with fail
          first
            | (go_roundw
               case rel => exact ⟨k + 1, g1, c1, q, by omega, by go_num, rfl, HF5.out⟩
               case measure => simp [intOf]; omega)
            | (exact ⟨⟨k + 1, g1, c1, q, by omega, by go_num, rfl, HF5.out⟩, by simp [intOf]; omega⟩)
      · have HFQ := Lib.hid hfq
        have HCO := Lib.hid (compactOut wr hfq.pg hfq.wf)
        have HCP := Lib.hid fun W (hW : Below wr.heap.size wr W) => capacityOut W (hfq.pg.below hW) hfq.wf
        have hcs := compact_spec hfq.wf
        have HCQ := Lib.hid fun W (b' g' c' : Nat) (hW : Pg b' W g' c' (compactL q)) => capacityOut W hW hcs.1
        have hcc := cap_compact hfq.wf
        rw [hcc] at HCQ
        have HCT := Lib.hid (cont_compact hfq.wf)
        have HWC := Lib.hid hcs.1
        clear hfq hcs hcc
        generalize cap q = cq at *
        go_wp2_with fail
        refine HCO.out.mono ?_
        rintro e w4 ⟨g4, c4, rfl, hp4, hb4⟩
        have HP4 := Lib.hid (hp4.mono HFQ.out.below.size)
        have HB4 := Lib.hid hb4
        clear hp4 hb4 HCO
        go_wp2_with fail
        refine (HCP.out w4 HB4.out).mono ?_
        rintro e w5 ⟨rfl, hb5⟩
        have HB5 := Lib.hid hb5
        clear hb5 HCP
        go_wp2_with fail
        refine (HCQ.out w5 _ g4 c4 (HP4.out.below HB5.out)).mono ?_
        rintro e w6 ⟨rfl, hb6⟩
        have HF6 := Lib.hid (((HFQ.out.keep HB4.out).keep HB5.out).keep hb6)
        have HP6 := Lib.hid ((HP4.out.below HB5.out).below hb6)
        have HR1 := Lib.hid (readsPage w6 HF6.out.pg HF6.out.wf HF6.out.mp)
        clear hb6 HCQ HP4 HB4 HB5 HFQ
        go_wp2_with fail
        refine HR1.out.mono ?_
        rintro e w7 ⟨rfl, hb7⟩
        have HF7 := Lib.hid (HF6.out.keep hb7)
        have HP7 := Lib.hid (HP6.out.below hb7)
        have HR2 := Lib.hid (readsPage w7 HP7.out HWC.out (HF7.out.mp.congr HCT.out))
        clear hb7 HR1 HF6 HP6
        go_wp2_with fail
        refine HR2.out.mono ?_
        rintro e w8 ⟨rfl, hb8⟩
        have HF8 := Lib.hid (HF7.out.keep hb8)
        clear hb8
        go_wp2_with fail
        go_ret
        exact ⟨rfl, HF8.out.below⟩
  · have h4f : (20 : Int) < (ys.length : Int) := by omega
    have h4h : ¬ ((ys.length : Int) ≤ 20) := by omega
    have h4i : ¬ ((ys.length : Int) < 20) := by omega
    have h4c : (20 : Int) ≤ (c' : Int) := by omega
    have h4g : min (ys.length : Int) 20 = 20 := by omega
    have hNN : ∀ k, k < 20 → k < ys.length := fun k h => by omega
    go_enter Try.func7, Try.ntmps7
    go_wp2_with (at_builtin; refine wpList_app rfl (.tmp 20) (.tmp 21) _ _ rfl rfl rfl (run_pushs elem_ints intLay _ (w.alloc (.cells #[.int .i64 5] 3)) _ [5] HO.out HX.out HN.out H1.out H2.out hB) ?_; rintro v2 w2 ⟨ho2, hx2⟩; obtain ⟨A2, m2, c2, rfl, hm2⟩ := ho2.form')
    have hb2 : Below w.heap.size w w2 := ((Below.refl _ _).alloc (Nat.le_refl _) _).trans (hx2.below (base := w.heap.size) hB (fun g hg => Nat.le_of_eq (Option.some.inj hg)))
    have hcap2 : ([5] ++ xs).length ≤ c2 ∧ c2 ≤ maxLen := by
      obtain ⟨A3, c3, hv, h1, h2⟩ := ho2.form
      injection hv with _ _ h3
      rw [h3]
      exact ⟨h1, h2⟩
    have HF0 := filledPage A2 c2 ([5] ++ xs) w2 ((ho2.elems intLay.len rfl).more fun k hk => (ho2.lt k hk).2) hcap2.1 hcap2.2 HK5.out
    have hmin : 0 < min ([5] ++ xs).length 60 ∧ min ([5] ++ xs).length 60 ≤ 60 := by simp; omega
    rw [hm2] at HF0 hmin
    have HF := Lib.hid HF0
    have HB2 := Lib.hid hb2
    clear HF0 hcap2 hb2 ho2 hx2 hm2
    generalize min m2 60 = kk at *
    refine HF.out.mono ?_
    rintro e w3 ⟨p, g, c3, b, rfl, hfi⟩
    have hfp : FP w w3 b p g c3 := ⟨hfi.pg.mono HB2.out.size, hfi.wf, hfi.mp.mono hmin.2, HB2.out.trans (hfi.below.mono HB2.out.size), Nat.le_trans HB2.out.size hfi.hb⟩
    have HFP := Lib.hid hfp
    clear hfi hfp hmin HF HB2
    go_wp2_with fail
    go_loopw [5, 35] (fun v i wr => ∃ (k g1 c1 : Nat) (q : List Nat), k ≤ 20 ∧ i = .int .i64 k ∧ v = .slice (some ⟨g1, 0, none⟩) 256 c1 ∧ FP w wr b q g1 c1) (fun _ i _ => 20 - (intOf i).toNat)
    case atStart => exact ⟨0, _, _, _, by omega, rfl, rfl, HFP.out⟩
    case round =>
      obtain ⟨k, g1, c1, q, hk, rfl, rfl, hfq⟩ := hrel
      clear HFP
      by_cases hlt : k < 20
      · have hky := hNN k hlt
        obtain ⟨by_, off, rfl, hbs, c0⟩ := (HY.out.keep (Keeps.of_below hfq.below fun _ h => h)).int hky
        have HMD := Lib.hid fun W => mod_any ys[k] 60 W (HYK.out _ (List.getElem_mem hky)) (by omega) (by omega)
        have HFQ := Lib.hid hfq
        have HDL := Lib.hid fun (m : Nat) (hm : m ≤ 1000) => deletePage wr hfq.pg hfq.wf m hm
        unfold DelPost at HDL
        clear hfq hbs
        generalize ys[k]'hky = x at *
        go_wp2_with fail
        refine (HMD.out wr).mono ?_
        rintro e w4 ⟨m, rfl, hm, rfl⟩
        have HD2 := Lib.hid (HDL.out m (by omega))
        have hm6 : m ≤ 1000000 := by omega
        clear HDL HMD c0
        go_wp2_with fail
        refine HD2.out.mono ?_
        rintro e w5 ⟨hb5, hcase⟩
        have HF5 := Lib.hid (HFQ.out.keep hb5)
        by_cases hs : (cont q m).isSome = true
        · rw [if_pos hs] at hcase
          obtain ⟨g5, c5, rfl, hp5⟩ := hcase
          have hmq : m < B q 0 := by
            cases hc : cont q m with
            | none => rw [hc] at hs; cases hs
            | some r => exact (cont_of hc).1
          have HP5 := Lib.hid (hp5.mono HFQ.out.below.size)
          have HCR := Lib.hid fun j => cont_rem HFQ.out.wf hmq j
          have HWR := Lib.hid (rem_spec HFQ.out.wf hmq).1
          have HCM := Lib.hid hs
          clear hb5 hp5 HD2 hmq hs
          go_wp2_with (at_delete; refine wpList_mpdel rfl (.tmp 50) (.tmp 51) rfl (p := q) (p' := rem q m) rfl rfl HF5.out.mp hm6 HCM.out HCR.out ?_; intro w6 hm6' hg6)
          have HF6 := Lib.hid (HF5.out.turned HP5.out HWR.out hg6 hm6' (Nat.le_refl _))
          clear hm6' hg6
          first
            | (go_roundw
               case rel => exact ⟨k + 1, g5, c5, rem q m, by omega, by go_num, rfl, HF6.out⟩
               case measure => simp [intOf]; omega)
            | (exact ⟨⟨k + 1, g5, c5, rem q m, by omega, by go_num, rfl, HF6.out⟩, by simp [intOf]; omega⟩)
        · rw [if_neg hs] at hcase
          subst hcase
          clear hb5 HD2 hs
          go_wp2_with fail
          first
            | (go_roundw
               case rel => exact ⟨k + 1, g1, c1, q, by omega, by go_num, rfl, HF5.out⟩
               case measure => simp [intOf]; omega)
            | (exact ⟨⟨k + 1, g1, c1, q, by omega, by go_num, rfl, HF5.out⟩, by simp [intOf]; omega⟩)
      · have HFQ := Lib.hid hfq
        have HCO := Lib.hid (compactOut wr hfq.pg hfq.wf)
        have HCP := Lib.hid fun W (hW : Below wr.heap.size wr W) => capacityOut W (hfq.pg.below hW) hfq.wf
        have hcs := compact_spec hfq.wf
        have HCQ := Lib.hid fun W (b' g' c' : Nat) (hW : Pg b' W g' c' (compactL q)) => capacityOut W hW hcs.1
        have hcc := cap_compact hfq.wf
        rw [hcc] at HCQ
        have HCT := Lib.hid (cont_compact hfq.wf)
        have HWC := Lib.hid hcs.1
        clear hfq hcs hcc
        generalize cap q = cq at *
        go_wp2_with fail
        refine HCO.out.mono ?_
        rintro e w4 ⟨g4, c4, rfl, hp4, hb4⟩
        have HP4 := Lib.hid (hp4.mono HFQ.out.below.size)
        have HB4 := Lib.hid hb4
        clear hp4 hb4 HCO
        go_wp2_with fail
        refine (HCP.out w4 HB4.out).mono ?_
        rintro e w5 ⟨rfl, hb5⟩
        have HB5 := Lib.hid hb5
        clear hb5 HCP
        go_wp2_with fail
        refine (HCQ.out w5 _ g4 c4 (HP4.out.below HB5.out)).mono ?_
        rintro e w6 ⟨rfl, hb6⟩
        have HF6 := Lib.hid (((HFQ.out.keep HB4.out).keep HB5.out).keep hb6)
        have HP6 := Lib.hid ((HP4.out.below HB5.out).below hb6)
        have HR1 := Lib.hid (readsPage w6 HF6.out.pg HF6.out.wf HF6.out.mp)
        clear hb6 HCQ HP4 HB4 HB5 HFQ
        go_wp2_with fail
        refine HR1.out.mono ?_
        rintro e w7 ⟨rfl, hb7⟩
        have HF7 := Lib.hid (HF6.out.keep hb7)
        have HP7 := Lib.hid (HP6.out.below hb7)
        have HR2 := Lib.hid (readsPage w7 HP7.out HWC.out (HF7.out.mp.congr HCT.out))
        clear hb7 HR1 HF6 HP6
        go_wp2_with fail
        refine HR2.out.mono ?_
        rintro e w8 ⟨rfl, hb8⟩
        have HF8 := Lib.hid (HF7.out.keep hb8)
        clear hb8
        go_wp2_with fail
        go_ret
        exact ⟨rfl, HF8.out.below⟩

end Go.Proofs.Ytalgocjhcgmdlaa
