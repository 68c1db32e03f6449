/-
  The walk of the law HeapFileGetAfterPut.
-/
import Derived.Test.YtjdcnkbkbcfhfaaHm23
namespace Go.Proofs.Ytjdcnkbkbcfhfaa
open Go.RowKit Go.Sort

set_option maxRecDepth 100000 in
set_option maxHeartbeats 8000000 in
theorem heapget_law (A : Option Addr) (c : Nat) (xs : List Int) (n : Int) (w : World) (hx : Elems 1 intCs w (· < w.heap.size) A xs) (_hl : xs.length ≤ c) (_hcm : c ≤ maxLen) (hok : ∀ x ∈ xs, I64 x) (hsz : xs.length * 8 ≤ reachBytes) (hn : I64 n) :
    Calls Try.prog 4 #[.slice A xs.length c, .int .i64 n] w fun e w' => e = .returned (.bool true) ∧ Below w.heap.size w w' := by
  have HIT := Lib.hid (indexTableW w)
  have HX := Lib.hid hx
  have HOK : Hid (∀ k ∈ [n] ++ xs, I64 k) := Lib.hid fun k hk => by
    rcases List.mem_append.1 hk with h | h
    · rw [List.mem_singleton.1 h]; exact hn
    · exact hok k h
  have HNN := Lib.hid hn
  obtain ⟨N, hN⟩ : ∃ N, xs.length = N := ⟨_, rfl⟩
  have hrb : reachBytes ≤ 140737488355320 := by decide
  have H1 : Hid ((([n] : List Int).length + xs.length) * 8 ≤ 140737488355328) := Lib.hid (by simp; omega)
  have H2 : Hid (([n] : List Int).length + xs.length ≤ maxLen) := Lib.hid (by unfold maxLen; simp; omega)
  rw [hN]
  have HN : Hid (N = xs.length) := Lib.hid hN.symm
  clear hx hok hsz hN hrb hn
  go_enter Try.func4, Try.ntmps4
  go_wp2_with fail
  refine HIT.out.mono ?_
  rintro e w1 ⟨a, p, rfl, ht, hb1⟩
  have HB1 := Lib.hid hb1
  have HNL := Lib.hid (newLaw w1 (ht.more fun g hg => hg.2))
  clear hb1 ht HIT
  unfold iTbl Tbl.val
  simp only
  rw [show iCols.length = 3 from rfl, show ([0] : List Int).length = 1 from rfl]
  go_wp2_with fail
  refine HNL.out.mono ?_
  rintro e w2 ⟨fb, tb, t, rfl, htc, htp, hft, hb2⟩
  have hb2' := HB1.out.trans (hb2.mono HB1.out.size)
  have HB2 := Lib.hid hb2'
  have HT := Lib.hid (And.intro htc htp)
  have HFT := Lib.hid hft
  have HB12 := Lib.hid hb2
  have HXA := Lib.hid ((HX.out.on hb2').keep (w' := w2.alloc (.cells #[.int .i64 n] 3)) fun k hk => Below.heap_alloc _ _ _ hk)
  have hb : w2.heap.size ≤ (w2.alloc (.cells #[.int .i64 n] 3)).heap.size := by simp
  have HO := Lib.hid (one_own w2 n)
  clear hb2 hb2' htc htp hft HNL
  go_wp2_with (at_builtin; refine wpList_app rfl (.tmp 27) (.tmp 28) _ _ rfl rfl rfl (run_pushs elem_ints intLay _ (w2.alloc (.cells #[.int .i64 n] 3)) _ [n] HO.out HXA.out HN.out H1.out H2.out hb) ?_; rintro v3 w3 ⟨ho3, hx3⟩)
  have hb3 : Below w2.heap.size w2 w3 := ((Below.refl _ _).alloc (Nat.le_refl _) _).trans (hx3.below (base := w2.heap.size) hb (fun g hg => Nat.le_of_eq (Option.some.inj hg)))
  obtain ⟨A3, c3, rfl, hl3, hm3⟩ := ho3.form
  have HTR := Lib.hid (tableRowsW A3 c3 ([n] ++ xs) w3 ((ho3.elems intLay.len rfl).more fun k hk => (ho3.lt k hk).2) hl3 hm3 HOK.out)
  obtain ⟨m, hm⟩ : ∃ m, m = min ([n] ++ xs).length 24 := ⟨_, rfl⟩
  rw [← hm] at HTR
  have hm24 : 0 < m ∧ m ≤ 24 := by rw [hm, List.length_append]; simp; omega
  have HB3 := Lib.hid hb3
  clear ho3 hx3 hb3 hm hl3 hm3 H1 H2 HN HO HXA hb
  obtain ⟨hm0, hm24⟩ := hm24
  generalize [n] ++ xs = ns at *
  refine HTR.out.mono ?_
  rintro e w4 ⟨v4, rfl, ks, hT⟩
  have hb24 : Below w2.heap.size w2 w4 := HB3.out.trans (hT.bel.mono HB3.out.size)
  obtain ⟨F, hF⟩ : ∃ F : Nat → Prop, F = fun k => k < w1.heap.size ∨ (w2.heap.size ≤ k ∧ k < w4.heap.size) := ⟨_, rfl⟩
  obtain ⟨g4, c4, rfl, hrows⟩ := RowsAt.of (F := F) hT hm0 (fun k h1 h2 => by rw [hF]; exact .inr ⟨Nat.le_trans HB3.out.size h1, h2⟩)
  have HFS : Hid (FS F w4 fb tb t 0 0 w4) := Lib.hid (by rw [hF]; exact FS.start (HFT.out.more hb24))
  have HFB : Hid (∀ W, Fr F w4 W → Below w.heap.size w W) := Lib.hid fun W hW => (HB2.out.trans (hb24.mono HB2.out.size)).trans (hW.below fun k hk => by rw [hF]; exact .inl (Nat.lt_of_lt_of_le hk HB1.out.size))
  have HROWS := Lib.hid hrows
  have HFLT : Hid (∀ k, F k → k < w4.heap.size) := Lib.hid fun k hk => by
    rw [hF] at hk
    rcases hk with hk | hk
    · exact Nat.lt_of_lt_of_le hk (Nat.le_trans HB12.out.size hb24.size)
    · exact hk.2
  clear hT hrows hb24 HTR HFT hF
  have hmi : (0 : Int) < (m : Int) := by omega
  have hm24' : (m : Int) ≤ 24 := by omega
  go_wp2_with fail
  go_loopw [33] (fun vi wr => ∃ k : Nat, vi = .int .i64 (k : Int) ∧ k ≤ m ∧ FS F w4 fb tb t 0 k wr) (fun vi _ => m - (intOf vi).toNat)
  case atStart => exact ⟨0, rfl, by omega, HFS.out⟩
  case round =>
    obtain ⟨k, rfl, hkm, hfs⟩ := hrel
    obtain ⟨wo, rfl⟩ : ∃ wo, wo = wr := ⟨_, rfl⟩
    by_cases hlt : k < m
    · have hr := HROWS.out.fr hfs.fr
      obtain ⟨Ak, ck, nk, e0, e1, e2⟩ := hr.at_ k hlt
      have HPU := Lib.hid (putStep hfs HT.out.1 HT.out.2 (by omega) Ak ck (trow k nk) (trow_rowI k nk) (e1.more fun g hg => Nat.lt_of_lt_of_le (HFLT.out g hg) hfs.fr.size))
      have hlt' : (k : Int) < (m : Int) := by omega
      clear hr e1 e2 hfs
      go_wp2_with fail
      refine HPU.out.mono ?_
      rintro e w5 ⟨rfl, hf5⟩
      have HF5 := Lib.hid hf5
      clear hf5
      go_wp2_with fail
      go_roundw
      case rel => exact ⟨k + 1, by go_num, by omega, HF5.out⟩
      case measure => simp [intOf]; omega
    · have hkm' : k = m := by omega
      subst hkm'
      have hj := md_lt (k := n) (n := (k : Int)) hmi
      obtain ⟨j, hjd⟩ : ∃ j, j = md n k := ⟨_, rfl⟩
      have HMD := Lib.hid (modW n k wo HNN.out hmi (by omega))
      rw [← hjd] at hj HMD
      have hjk : j < k := by omega
      have hr := HROWS.out.fr hfs.fr
      obtain ⟨Aj, cj, nj, e0, e1, -⟩ := hr.at_ j hjk
      have HCL := Lib.hid (scCloneRow Aj 3 cj (trow j nj) wo _ e1 (fun g hg => Nat.lt_of_lt_of_le (HFLT.out g hg) hfs.fr.size) rfl (by show 3 ≤ 100000; omega))
      have HFSO := Lib.hid hfs
      clear hr e1 hfs hjd
      go_wp2_with fail
      refine HMD.out.mono ?_
      rintro e w' ⟨rfl, rfl⟩
      go_wp2_with fail
      refine HCL.out.mono ?_
      rintro e w6 ⟨v6, rfl, ho6, hb6⟩
      obtain ⟨g6, c6, cur6, rfl, -⟩ := ho6.open_ (by show 0 < 3; omega)
      obtain ⟨⟨q3, z3⟩, ⟨q4, z4⟩, ⟨q5, z5⟩, hfz, hel⟩ := set_second (u := ⟨3, 0, longT⟩) ho6
      have y3 := hfz 3
      have y4 := hfz 4
      have y5 := hfz 5
      obtain ⟨hg6, hg6'⟩ := Own.lt ho6 g6 rfl
      have hb7 : Below wo.heap.size wo (((w6.setCell ⟨g6, 3, none⟩ (.int .i64 3)).setCell ⟨g6, 4, none⟩ (.int .i64 0)).setCell ⟨g6, 5, none⟩ (.string longT)) := ((hb6.setCell (p := ⟨g6, 3, none⟩) hg6 _).setCell (p := ⟨g6, 4, none⟩) hg6 _).setCell (p := ⟨g6, 5, none⟩) hg6 _
      obtain ⟨w7, hw7⟩ : ∃ w7, w7 = (((w6.setCell ⟨g6, 3, none⟩ (.int .i64 3)).setCell ⟨g6, 4, none⟩ (.int .i64 0)).setCell ⟨g6, 5, none⟩ (.string longT)) := ⟨_, rfl⟩
      have hs7 : w7.heap.size = w6.heap.size := by rw [hw7, setCell_size, setCell_size, setCell_size]
      have hel : Elems 3 Val.cs w7 (fun k => k = g6) (some ⟨g6, 0, none⟩) (longR j nj) := by rw [hw7]; exact hel
      rw [← hw7] at hb7
      have hfs7 := HFSO.out.more hb7
      have HPL := Lib.hid (putLast hfs7 HT.out.1 HT.out.2 hm24 hjk (some ⟨g6, 0, none⟩) c6 (longR j nj) (longR_rowI j nj) (hel.more fun g hg => by rw [hg, hs7]; exact hg6'))
      have HEL : Hid (∀ W, Fr (fun k => F k ∨ (wo.heap.size ≤ k ∧ k < w7.heap.size)) w7 W → Elems 3 Val.cs W (· < W.heap.size) (some ⟨g6, 0, none⟩) (longR j nj)) := Lib.hid fun W hW => (hel.keep fun i hi => hW.blk i (.inr (by rw [hi, hs7]; exact ⟨hg6, hg6'⟩))).more fun g hg => by rw [hg]; have := hW.size; omega
      have HBE : Hid (∀ W, Fr (fun k => F k ∨ (wo.heap.size ≤ k ∧ k < w7.heap.size)) w7 W → Below w.heap.size w W) := Lib.hid fun W hW => HFB.out W (HFSO.out.fr.trans ((Fr.of_below hb7 fun k hk => Nat.lt_of_lt_of_le (HFLT.out k hk) HFSO.out.fr.size).trans (hW.sub fun _ => .inl)))
      have HW7 := Lib.hid hw7
      have hcap : 3 ≤ c6 := by
        obtain ⟨A', c', e, h1, -⟩ := ho6.form
        injection e with _ _ e
        rw [e]
        exact h1
      have hcap' : (3 : Int) ≤ (c6 : Int) := by omega
      clear ho6 hb6 hfz hel hb7 hw7 hs7 hfs7 hg6 hg6' hcap
      unfold longT at HW7
      rw [show (trow j nj).length = 3 from rfl]
      go_upto_region 14 with fail
      rw [← HW7.out]
      go_wp2_with fail
      refine HPL.out.mono ?_
      rintro e w8 ⟨rfl, hfl⟩
      have HFL := Lib.hid hfl
      have hfr8 : Fr (fun k => F k ∨ (wo.heap.size ≤ k ∧ k < w7.heap.size)) w7 w8 := by
        obtain ⟨_, _, _, _, _, _, _, _, _, _, h⟩ := hfl
        exact h
      have HGL := Lib.hid (getLast hfl HT.out.1 HT.out.2 (by omega) (some ⟨g6, 0, none⟩) c6 ((HEL.out w8 hfr8).take 1))
      have HFR8 := Lib.hid hfr8
      clear hfl hfr8 HPL
      go_wp2_with fail
      refine HGL.out.mono ?_
      rintro e w9 ⟨v9, rfl, ho9, hb9⟩
      obtain ⟨A9, c9, rfl, -, -⟩ := ho9.form
      have hfr9 := HFR8.out.trans (Fr.of_below hb9 HFL.out.choose_spec.choose_spec.choose_spec.choose_spec.1.lt)
      have HRE : Hid (Calls Try.prog 14 #[.slice A9 3 c9, .slice (some ⟨g6, 0, none⟩) 3 c6] w9 fun e w' => e = .returned (.bool true) ∧ ∃ n, w' = w9.drewN n) := Lib.hid ((rowsEqual A9 (some ⟨g6, 0, none⟩) c9 c6 (longR j nj) (longR j nj) w9 _ _ (ho9.elems scValLay.len rfl) (HEL.out w9 hfr9) (by show 3 ≤ maxLen; unfold maxLen; omega) (by show 3 ≤ maxLen; unfold maxLen; omega)).mono fun e w' h => ⟨by rw [h.1]; exact ret_bool (decide_eq_true rfl), h.2⟩)
      have HFL9 := Lib.hid (HFL.out.below hb9)
      have HFR9 := Lib.hid hfr9
      clear ho9 hb9 hfr9 HGL
      rw [show (longR j nj).length = 3 from rfl]
      go_wp2_with fail
      refine HRE.out.mono ?_
      rintro e w10 ⟨rfl, nd, rfl⟩
      have HRW := Lib.hid (rowsLast (HFL9.out.below (below_drewN (Below.refl _ _) nd)) hm24)
      go_wp2_with fail
      refine HRW.out.mono ?_
      rintro e w11 ⟨A11, n11, c11, rfl, rfl, hb11⟩
      have HEND := Lib.hid (HBE.out _ ((HFR9.out.drewN nd).trans (Fr.of_below hb11 (HFL9.out.below (below_drewN (Below.refl _ _) nd)).choose_spec.choose_spec.choose_spec.choose_spec.1.lt)))
      clear hb11
      go_wp2_with fail
      go_ret
      exact ⟨by simp, HEND.out⟩
end Go.Proofs.Ytjdcnkbkbcfhfaa
