/-
  The walks of the laws RLEAtAgreesWithDecode and RLERoundTrip.
-/
import Derived.Test.YtimndhnbbmedbaaRlew
import Derived.Test.YtimndhnbbmedbaaEqvs
namespace Go.Proofs.Ytimndhnbbmedbaa
open Go.RowKit

def zeroVal : Val := ⟨0, 0, ByteArray.empty⟩
theorem zeroVal_ok : zeroVal.err = 0 := by
  have e : (ByteArray.empty : ByteArray).toList.isEmpty = true := by rw [ByteArray.toList_eq]; rfl
  unfold Val.err vErr
  rw [if_pos (show zeroVal.kind = 0 from rfl), if_pos ⟨rfl, e⟩]

/-- The values of a law: a column and a null. -/
theorem vals_ok {vs : List Val} (hl : vs.length ≤ 300) (h : ∀ x ∈ vs, x.err = 0) : (vs ++ [zeroVal]).length ≤ 400 ∧ ∀ x ∈ vs ++ [zeroVal], x.err = 0 := by
  refine ⟨by simp; omega, fun x hx => ?_⟩
  rcases List.mem_append.1 hx with h' | h'
  · exact h x h'
  · simp at h'; subst h'; exact zeroVal_ok

set_option maxRecDepth 100000 in
set_option maxHeartbeats 1000000 in
theorem at_law (A : Option Addr) (c : Nat) (ns : List Int) (i : Int) (w : World) (hx : Elems 1 intCs w (· < w.heap.size) A ns) (hlc : ns.length ≤ c) (hc : c ≤ maxLen) (hok : ∀ n ∈ ns, I64 n) (hi : -9223372036854775808 ≤ i ∧ i ≤ 9223372036854775807) :
    Calls Try.prog 3 #[.slice A ns.length c, .int .i64 i] w fun e w' => e = .returned (.bool true) ∧ Below w.heap.size w w' := by
  have HI := Lib.hid hi
  have HC := Lib.hid hc
  have HL := Lib.hid hlc
  have HK := Lib.hid hok
  clear hi hc hlc hok
  go_enter Try.func3, Try.ntmps3
  go_wp2_with fail
  refine (column A c ns w hx HL.out HC.out HK.out).mono ?_
  rintro e w1 ⟨v1, vs, rfl, ho1, hb1, hvl, hva⟩
  have h1 : (vs.length + 1) * 32 ≤ 140737488355328 := by omega
  have h2 : vs.length + 1 ≤ maxLen := by unfold maxLen; omega
  have H1 := Lib.hid h1
  have H2 := Lib.hid h2
  have HV := Lib.hid (vals_ok hvl hva)
  clear h1 h2 hva
  go_wp2_with (at_builtin; refine wpList_app rfl (.tmp 10) (.tmp 12) _ _ rfl rfl rfl (run_push elem_vals valLay _ w1 v1 vs zeroVal _ ho1 rfl H1.out H2.out hb1.size rfl) ?_; rintro v2 w2 ⟨ho2, hx2⟩)
  have hb2 : Below w.heap.size w1 w2 := hx2.below hb1.size (fun g hg => (ho1.lt g hg).1)
  have hpos : 0 < (vs ++ [zeroVal]).length := by simp
  have hlen4 := HV.out.1
  generalize vs ++ [zeroVal] = xs at *
  obtain ⟨A2, c2, rfl, _, _⟩ := ho2.form
  have hel2 := (ho2.elems valLay.len rfl).more (S' := (· < w2.heap.size)) fun k hk => (ho2.lt k hk).2
  refine (encode A2 c2 xs w2 hel2 HV.out.1 HV.out.2).mono ?_
  rintro e w3 ⟨v3, rfl, ho3, hb3⟩
  obtain ⟨A3, c3, rfl, _, _⟩ := ho3.form
  go_wp2_with fail
  refine (mod_any i _ w3 HI.out (by omega) (by omega)).mono ?_
  rintro e w4 ⟨m, rfl, hm, rfl⟩
  have hel3 := (ho3.elems runLay.len rfl).more (S' := (· < w3.heap.size)) fun k hk => (ho3.lt k hk).2
  have hml : m < xs.length := by omega
  go_wp2_with fail
  refine (rleAt A3 c3 (encRuns xs) m w3 hel3 (canon_enc HV.out.2 HV.out.1) (by rw [decRuns_enc]; exact hml)).mono ?_
  rintro e w4 ⟨rfl, hb4⟩
  have hat : (decRuns (encRuns xs))[m]'(by rw [decRuns_enc]; exact hml) = xs[m] := by
    have : ∀ (ys : List Val) (h : ys = xs) (hh : m < ys.length), ys[m] = xs[m] := fun ys h hh => by subst h; rfl
    exact this _ (decRuns_enc xs) _
  rw [hat]
  have hel4 := hel2.keep (Keeps.of_below (hb3.trans (hb4.mono hb3.size)) fun _ h => h)
  obtain ⟨b, off, rfl, hbs, d0, d1, d2⟩ := hel4.val hml
  have hv := fun W => eql_val xs[m].kind xs[m].int xs[m].kind xs[m].int xs[m].text xs[m].text W
  rw [Val.ext_iff'] at hv
  simp only [decide_true] at hv
  have hs3 := hb3.size
  have hs4 := hb4.size
  have hbw : b < w4.heap.size := by omega
  have hi1 : (m : Int) < (xs.length : Int) := by omega
  have hi0 : (0 : Int) ≤ (m : Int) := by omega
  clear hat hel4 hel3 hel2 ho2 ho3
  generalize xs[m] = x at *
  go_wp2_with fail
  go_quiet (fail)
  go_wp2_with fail
  go_ret
  exact ⟨rfl, below_drewN (((((hb1.trans hb2).trans (hb3.mono (by have := hb1.size; have := hb2.size; omega))).trans (hb4.mono (by have := hb1.size; have := hb2.size; omega))).alloc (by have := hb1.size; have := hb2.size; omega) _)) _⟩

set_option maxRecDepth 100000 in
set_option maxHeartbeats 1000000 in
theorem rle_roundtrip_law (A : Option Addr) (c : Nat) (ns : List Int) (w : World) (hx : Elems 1 intCs w (· < w.heap.size) A ns) (hlc : ns.length ≤ c) (hc : c ≤ maxLen) (hok : ∀ n ∈ ns, I64 n) :
    Calls Try.prog 4 #[.slice A ns.length c] w fun e w' => e = .returned (.bool true) ∧ Below w.heap.size w w' := by
  have HC := Lib.hid hc
  have HL := Lib.hid hlc
  have HK := Lib.hid hok
  clear hc hlc hok
  go_enter Try.func4, Try.ntmps4
  go_wp2_with fail
  refine (column A c ns w hx HL.out HC.out HK.out).mono ?_
  rintro e w1 ⟨v1, vs, rfl, ho1, hb1, hvl, hva⟩
  have h1 : (vs.length + 1) * 32 ≤ 140737488355328 := by omega
  have h2 : vs.length + 1 ≤ maxLen := by unfold maxLen; omega
  have H1 := Lib.hid h1
  have H2 := Lib.hid h2
  have HV := Lib.hid (vals_ok hvl hva)
  clear h1 h2 hva
  go_wp2_with (at_builtin; refine wpList_app rfl (.tmp 10) (.tmp 12) _ _ rfl rfl rfl (run_push elem_vals valLay _ w1 v1 vs zeroVal _ ho1 rfl H1.out H2.out hb1.size rfl) ?_; rintro v2 w2 ⟨ho2, hx2⟩)
  have hb2 : Below w.heap.size w1 w2 := hx2.below hb1.size (fun g hg => (ho1.lt g hg).1)
  have hlen4 := HV.out.1
  generalize vs ++ [zeroVal] = xs at *
  obtain ⟨A2, c2, rfl, _, _⟩ := ho2.form
  have hel2 := (ho2.elems valLay.len rfl).more (S' := (· < w2.heap.size)) fun k hk => (ho2.lt k hk).2
  refine (encode A2 c2 xs w2 hel2 HV.out.1 HV.out.2).mono ?_
  rintro e w3 ⟨v3, rfl, ho3, hb3⟩
  obtain ⟨A3, c3, rfl, _, _⟩ := ho3.form
  have hcan := canon_enc HV.out.2 HV.out.1
  have hdec := decRuns_enc xs
  have hel3 := (ho3.elems runLay.len rfl).more (S' := (· < w3.heap.size)) fun k hk => (ho3.lt k hk).2
  generalize encRuns xs = rs at *
  have HD := Lib.hid hdec
  have HN := Lib.hid hcan
  clear hdec hcan ho3
  go_wp2_with fail
  refine (check A3 c3 rs w3 hel3 HN.out).mono ?_
  rintro e w4 ⟨rfl, hb4⟩
  have hel4 := (hel3.keep (Keeps.of_below hb4 fun _ h => h)).more (S' := (· < w4.heap.size)) fun k hk => Nat.lt_of_lt_of_le hk hb4.size
  go_wp2_with fail
  refine (decode A3 c3 rs w4 hel4 HN.out).mono ?_
  rintro e w5 ⟨v5, rfl, ho5, hb5⟩
  rw [HD.out] at ho5
  obtain ⟨A5, c5, rfl, _, _⟩ := ho5.form
  have hel5 := (hel4.keep (Keeps.of_below hb5 fun _ h => h)).more (S' := (· < w5.heap.size)) fun k hk => Nat.lt_of_lt_of_le hk hb5.size
  go_wp2_with fail
  refine (rleLen A3 c3 rs w5 hel5 HN.out).mono ?_
  rintro e w6 ⟨rfl, hb6⟩
  rw [HD.out]
  have hb36 : Below w2.heap.size w2 w6 := ((hb3.trans (hb4.mono hb3.size)).trans (hb5.mono (by have := hb3.size; have := hb4.size; omega))).trans (hb6.mono (by have := hb3.size; have := hb4.size; have := hb5.size; omega))
  have hx6 := hel2.keep (Keeps.of_below hb36 fun _ h => h)
  have hy6 := (ho5.below hb6).elems valLay.len rfl
  have HX := Lib.hid hx6
  have HY := Lib.hid hy6
  have hmx : xs.length ≤ maxLen := by unfold maxLen; omega
  clear hel2 hel3 hel4 hel5 ho5 ho2 hx6 hy6
  go_wp2_with fail
  refine (valsEqual A5 A2 c5 c2 xs xs w6 _ _ HY.out HX.out hmx hmx).mono ?_
  rintro e w7 ⟨rfl, n7, rfl⟩
  go_wp2_with fail
  go_ret
  exact ⟨ret_bool (by simp), below_drewN ((hb1.trans hb2).trans (hb36.mono (by have := hb1.size; have := hb2.size; omega))) _⟩

end Go.Proofs.Ytimndhnbbmedbaa
