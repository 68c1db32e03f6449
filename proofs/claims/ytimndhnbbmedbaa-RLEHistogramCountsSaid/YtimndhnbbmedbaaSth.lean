/-
  The walk of the law RLEHistogramCounts.
-/
import Derived.Test.YtimndhnbbmedbaaStc
import Derived.Test.YtimndhnbbmedbaaEqr
import Derived.Test.YtimndhnbbmedbaaRleLaws
namespace Go.Proofs.Ytimndhnbbmedbaa
open Go.RowKit Go.Sort

theorem enc_pos2 {xs : List Val} (h : 0 < xs.length) : 0 < (encRuns xs).length := by
  rcases Nat.eq_zero_or_pos (encRuns xs).length with h0 | h0
  · have h1 : encRuns xs = [] := List.eq_nil_of_length_eq_zero h0
    have h2 := decRuns_enc xs
    rw [h1] at h2
    rw [← h2] at h
    simp [decRuns] at h
  · exact h0

set_option maxRecDepth 100000 in
set_option maxHeartbeats 1000000 in
theorem hist_law (A : Option Addr) (c : Nat) (ns : List Int) (w : World) (hx : Elems 1 intCs w (· < w.heap.size) A ns) (hlc : ns.length ≤ c) (hc : c ≤ maxLen) (hok : ∀ n ∈ ns, I64 n) :
    Calls Try.prog 6 #[.slice A ns.length c] w fun e w' => e = .returned (.bool true) ∧ Below w.heap.size w w' := by
  have HC := Lib.hid hc
  have HL := Lib.hid hlc
  have HK := Lib.hid hok
  clear hc hlc hok
  go_enter Try.func6, Try.ntmps6
  go_wp2_with fail
  refine (column A c ns w hx HL.out HC.out HK.out).mono ?_
  rintro e w1 ⟨v1, vs, rfl, ho1, hb1, hvl, hva⟩
  have h1 : (vs.length + 1) * 32 ≤ 140737488355328 := by omega
  have h2 : vs.length + 1 ≤ maxLen := by unfold maxLen; omega
  have H1 := Lib.hid h1
  have H2 := Lib.hid h2
  have HV := Lib.hid (vals_ok hvl hva)
  clear h1 h2 hva
  go_wp2_with (at_builtin; refine wpList_app rfl (.tmp 16) (.tmp 18) _ _ rfl rfl rfl (run_push elem_vals valLay _ w1 v1 vs zeroVal _ ho1 rfl H1.out H2.out hb1.size rfl) ?_; rintro v2 w2 ⟨ho2, hx2⟩)
  have hb2 : Below w.heap.size w1 w2 := hx2.below hb1.size (fun g hg => (ho1.lt g hg).1)
  have hpos : 0 < (vs ++ [zeroVal]).length := by simp
  have hlen4 := HV.out.1
  generalize vs ++ [zeroVal] = xs at *
  obtain ⟨A2, c2, rfl, _, _⟩ := ho2.form
  have hel2 := (ho2.elems valLay.len rfl).more (S' := (· < w2.heap.size)) fun k hk => (ho2.lt k hk).2
  have hb02 : Below w.heap.size w w2 := hb1.trans hb2
  have HE := Lib.hid (encode A2 c2 xs w2 hel2 HV.out.1 HV.out.2)
  clear ho1 ho2 hx hx2 hvl hb1 hb2
  go_wp2_with fail
  refine HE.out.mono ?_
  rintro e w3 ⟨v3, rfl, ho3, hb3⟩
  obtain ⟨A3, c3, rfl, _, _⟩ := ho3.form
  have hr3 := (ho3.elems runLay.len rfl).more (S' := (· < w3.heap.size)) fun k hk => (ho3.lt k hk).2
  have hel3 := (hel2.keep (Keeps.of_below hb3 fun _ h => h)).more (S' := (· < w3.heap.size)) fun k hk => Nat.lt_of_lt_of_le hk hb3.size
  have hb03 : Below w.heap.size w w3 := hb02.trans (hb3.mono hb02.size)
  have HCN := Lib.hid (canon_enc HV.out.2 HV.out.1)
  have HCP := Lib.hid (enc_pos2 hpos)
  have HCD := Lib.hid (decRuns_enc xs)
  have HCL := Lib.hid (clone_vals A2 c2 xs w3 (· < w3.heap.size) hel3 (fun _ h => h) (by omega))
  generalize encRuns xs = rs at *
  have HE := ()
  clear hel2 hel3 ho3 hb3 hb02
  go_wp2_with fail
  refine HCL.out.mono ?_
  rintro e w4 ⟨v4, rfl, ho4, hb4⟩
  obtain ⟨g, c4, rfl, hg, hg4, hvb⟩ := vals_vb ho4 hpos zeroVal
  have HRV := Lib.hid (reverse g xs.length c4 _ w4 hvb (by omega))
  clear ho4 hvb HCL
  go_wp2_with fail
  refine HRV.out.mono ?_
  rintro e w5 ⟨rfl, f, hvb5, hsw5⟩
  have hpm : (vrows f xs.length).Perm xs := by
    have := hsw5.perm (Nat.le_refl _)
    rwa [show (List.range xs.length).map (fun i => xs.getD i zeroVal) = xs from vrows_of xs _] at this
  have hb45 : Below w3.heap.size w3 w5 := hb4.trans (below_of_grown hvb5.only hb4.size (fun k hk => by injection hk with hk; omega))
  have hg5 : g < w5.heap.size := Nat.lt_of_lt_of_le hg4 hvb5.only.size
  have hel5 := (hvb5.elems).more (S' := (· < w5.heap.size)) fun k hk => by rw [hk]; exact hg5
  have hlen5 : (vrows f xs.length).length = xs.length := by simp [vrows]
  have HPM := Lib.hid hpm
  have HVY : Hid (∀ v ∈ vrows f xs.length, v.err = 0) := Lib.hid fun v hv => HV.out.2 v (hpm.subset hv)
  generalize vrows f xs.length = ys at *
  have hr5 := (hr3.keep (Keeps.of_below hb45 fun _ h => h)).more (S' := (· < w5.heap.size)) fun k hk => Nat.lt_of_lt_of_le hk hb45.size
  have hb05 : Below w.heap.size w w5 := hb03.trans (hb45.mono hb03.size)
  have HE5 : Hid (Calls Try.prog 8 #[.slice (some ⟨g, 0, none⟩) xs.length c4] w5 (EncodePost w5 ys)) := Lib.hid (by rw [← hlen5]; exact encode _ c4 ys w5 hel5 (by omega) HVY.out)
  have hpos5 : 0 < ys.length := by omega
  clear hvb5 hsw5 hpm hel5 hr3 hb03 hb45 hb4 HRV
  go_wp2_with fail
  refine HE5.out.mono ?_
  rintro e w6 ⟨v6, rfl, ho6, hb6⟩
  obtain ⟨A6, c6, rfl, _, _⟩ := ho6.form
  have hq6 := (ho6.elems runLay.len rfl).more (S' := (· < w6.heap.size)) fun k hk => (ho6.lt k hk).2
  have hr6 := (hr5.keep (Keeps.of_below hb6 fun _ h => h)).more (S' := (· < w6.heap.size)) fun k hk => Nat.lt_of_lt_of_le hk hb6.size
  have hb06 : Below w.heap.size w w6 := hb05.trans (hb6.mono hb05.size)
  have HDN := Lib.hid (canon_enc HVY.out (by omega))
  have HDP := Lib.hid (enc_pos2 hpos5)
  have HDD := Lib.hid (decRuns_enc ys)
  generalize encRuns ys = qs at *
  have HH := Lib.hid (histogram A3 c3 rs w6 hr6 HCN.out HCP.out)
  clear ho6 hr5 hb05 hb6 hr6 HE5
  go_wp2_with fail
  refine HH.out.mono ?_
  rintro e w7 ⟨v7, ra, rfl, hpa, hwa, hoa, hb7⟩
  have hq7 := (hq6.keep (Keeps.of_below hb7 fun _ h => h)).more (S' := (· < w7.heap.size)) fun k hk => Nat.lt_of_lt_of_le hk hb7.size
  have hb07 : Below w.heap.size w w7 := hb06.trans (hb7.mono hb06.size)
  obtain ⟨A7, c7, rfl, _, _⟩ := hoa.form
  have ha7 := (hoa.elems runLay.len rfl).more (S' := (· < w7.heap.size)) fun k hk => (hoa.lt k hk).2
  have HPA := Lib.hid hpa
  have HWA := Lib.hid hwa
  have HH2 := Lib.hid (histogram A6 c6 qs w7 hq7 HDN.out HDP.out)
  clear hpa hwa hoa hb06 hb7 hq6 hq7 HH
  go_wp2_with fail
  refine HH2.out.mono ?_
  rintro e w8 ⟨v8, rb, rfl, hpb, hwb, hob, hb8⟩
  have hdp : (decRuns ra).Perm (decRuns rb) := by
    have e1 := decRuns_perm HPA.out
    have e2 := decRuns_perm hpb
    rw [HCD.out] at e1
    rw [HDD.out] at e2
    exact (e1.trans HPM.out.symm).trans e2.symm
  have heq := hist_eq HWA.out hwb hdp
  have hel : (decRuns (encRuns (decRuns ra))).length = xs.length := by
    rw [decRuns_enc, (decRuns_perm HPA.out).length_eq, HCD.out]
  rw [← heq] at hob
  have hla := len_enc (decRuns ra)
  rw [decRuns_enc] at hel
  have hel' : (decRuns (encRuns (decRuns ra))).length = xs.length := by rw [decRuns_enc]; exact hel
  obtain ⟨A8, c8, rfl, _, _⟩ := hob.form
  have hz8 := hob.elems runLay.len rfl
  have ha8 := (ha7.keep (Keeps.of_below hb8 fun _ h => h)).more (S' := (· < w8.heap.size)) fun k hk => Nat.lt_of_lt_of_le hk hb8.size
  have hz9 := hz8.more (S' := (· < w8.heap.size)) fun k hk => (hob.lt k hk).2
  have hb08 : Below w.heap.size w w8 := hb07.trans (hb8.mono hb07.size)
  have hrl : (encRuns (decRuns ra)).length ≤ 400 := by omega
  generalize encRuns (decRuns ra) = hs at *
  have HA8 := Lib.hid ha8
  have HZ8 := Lib.hid hz9
  have HEL := Lib.hid hel'
  have hmx : hs.length ≤ maxLen := by unfold maxLen; omega
  have HEQ := Lib.hid fun W (ha : Elems 4 Run.cs W (· < W.heap.size) A7 hs) (hb : Elems 4 Run.cs W (· < W.heap.size) A8 hs) => runsEqual A7 A8 c7 c8 hs hs W _ _ ha hb hmx hmx
  clear hpb hwb hob hdp heq hel hel' hla hz8 ha8 hz9 ha7 hb07 hb8 HH2 hmx
  go_wp2_with fail
  go_loopw [12, 50] (fun n i wr => ∃ k : Nat, k ≤ hs.length ∧ i = .int .i64 k ∧ n = .int .i64 (tot hs k) ∧ Below w8.heap.size w8 wr) (fun _ i _ => hs.length - (intOf i).toNat)
  case atStart => exact ⟨0, by omega, rfl, rfl, Below.refl _ _⟩
  case round =>
    obtain ⟨k, hk, rfl, rfl, hb⟩ := hrel
    by_cases hlt : k < hs.length
    · obtain ⟨b, off, rfl, hbs, c0, c1, c2, c3⟩ := (HA8.out.keep (Keeps.of_below hb fun _ h => h)).run hlt
      have hts := tot_succ hlt
      have htl := tot_le hs (k + 1)
      have hn2 : tot hs k + hs[k].n ≤ 100000 := by have := HEL.out; omega
      have HT := Lib.hid hts
      generalize hs[k] = x at *
      clear hts htl
      go_wp2_with fail
      go_roundw
      case rel => exact ⟨k + 1, by omega, by go_num, val_int (by rw [HT.out, Int.natCast_add]), hb.alloc (by have := hb.size; omega) _⟩
      case measure => simp [intOf]; omega
    · have hkl : k = hs.length := by omega
      subst hkl
      have ht : tot hs hs.length = xs.length := by rw [tot_all]; exact HEL.out
      have HB := Lib.hid hb
      have hsz := hb.size
      have HCA := Lib.hid (HEQ.out wr ((HA8.out.keep (Keeps.of_below hb fun _ h => h)).more fun k hk => Nat.lt_of_lt_of_le hk hsz) ((HZ8.out.keep (Keeps.of_below hb fun _ h => h)).more fun k hk => Nat.lt_of_lt_of_le hk hsz))
      rw [ht]
      clear hb ht
      go_wp2_with fail
      refine HCA.out.mono ?_
      rintro e w11 ⟨rfl, n11, rfl⟩
      go_wp2_with fail
      go_ret
      exact ⟨ret_bool (by simp), below_drewN (hb08.trans (HB.out.mono hb08.size)) _⟩

end Go.Proofs.Ytimndhnbbmedbaa
