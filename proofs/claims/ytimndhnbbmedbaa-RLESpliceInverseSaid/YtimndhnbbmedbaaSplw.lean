/-
  The walk of the law RLESpliceInverse.
-/
import Derived.Test.YtimndhnbbmedbaaSpl
import Derived.Test.YtimndhnbbmedbaaEqr
import Derived.Test.YtimndhnbbmedbaaRleLaws
namespace Go.Proofs.Ytimndhnbbmedbaa
open Go.RowKit

theorem enc_pos {xs : List Val} (h : 0 < xs.length) : 0 < (encRuns xs).length := by
  rcases Nat.eq_zero_or_pos (encRuns xs).length with h0 | h0
  · have h1 : encRuns xs = [] := List.eq_nil_of_length_eq_zero h0
    have h2 := decRuns_enc xs
    rw [h1] at h2
    rw [← h2] at h
    simp [decRuns] at h
  · exact h0

theorem splice_back {xs us : List Val} {i : Nat} (hi : i ≤ xs.length) : (xs.take i ++ us ++ xs.drop (i + 0)).take i ++ ([] : List Val) ++ (xs.take i ++ us ++ xs.drop (i + 0)).drop (i + us.length) = xs := by
  have h1 : (xs.take i).length = i := by rw [List.length_take]; omega
  have e1 : (xs.take i ++ us ++ xs.drop (i + 0)).take i = xs.take i := by
    rw [List.append_assoc, List.take_append_of_le_length (by omega), List.take_take, Nat.min_self]
  rw [e1, List.append_nil]
  have h2 : (xs.take i ++ us).length = i + us.length := by rw [List.length_append, h1]
  rw [← h2, List.drop_append_of_le_length (Nat.le_refl _), List.drop_length, List.nil_append, Nat.add_zero, List.take_append_drop]

set_option maxRecDepth 100000 in
set_option maxHeartbeats 1000000 in
/-- From the second column on. -/
theorem splice_law (A : Option Addr) (c : Nat) (ns : List Int) (B : Option Addr) (d : Nat) (ks : List Int) (i : Int) (w : World) (hx : Elems 1 intCs w (· < w.heap.size) A ns) (hlc : ns.length ≤ c) (hc : c ≤ maxLen) (hok : ∀ n ∈ ns, I64 n) (hy : Elems 1 intCs w (· < w.heap.size) B ks) (hld : ks.length ≤ d) (hd : d ≤ maxLen) (hok2 : ∀ n ∈ ks, I64 n) (hi : -9223372036854775808 ≤ i ∧ i ≤ 9223372036854775807) :
    Calls Try.prog 5 #[.slice A ns.length c, .slice B ks.length d, .int .i64 i] w fun e w' => e = .returned (.bool true) ∧ Below w.heap.size w w' := by
  have HI := Lib.hid hi
  have HC := Lib.hid hc
  have HL := Lib.hid hlc
  have HK := Lib.hid hok
  have HCOL2 : ∃ l : Nat, l = min ks.length 50 ∧ ∀ W, Elems 1 intCs W (· < W.heap.size) B ks → Calls Try.prog 7 #[.slice B l d] W (ColumnN W l) := by
    refine ⟨_, rfl, fun W hW => ?_⟩
    have h := columnN B d (ks.take 50) W (hW.take 50) (by rw [List.length_take]; omega) hd fun n hn => hok2 n (List.mem_of_mem_take hn)
    rw [List.length_take, Nat.min_comm] at h
    exact h
  obtain ⟨l, hl, hcol2⟩ := HCOL2
  have hl50 : l ≤ 50 := by omega
  have HCOL2 := Lib.hid hcol2
  have hmx : max (50 : Int) 0 = 50 := by decide
  have hdm : (d : Int) ≤ 9223372036854775807 := by unfold maxLen at hd; omega
  clear hi hc hlc hok hcol2 hok2 hd
  rcases Nat.lt_or_ge 50 ks.length with h50 | h50
  · have hl' : l = 50 := by omega
    have hmn : (50 : Int) < (ks.length : Int) := by omega
    subst hl'
    clear hl h50
    go_enter Try.func5, Try.ntmps5
    go_wp2_with fail
    refine (column A c ns w hx HL.out HC.out HK.out).mono ?_
    rintro e w1 ⟨v1, vs, rfl, ho1, hb1, hvl, hva⟩
    have h1 : (vs.length + 1) * 32 ≤ 140737488355328 := by omega
    have h2 : vs.length + 1 ≤ maxLen := by unfold maxLen; omega
    have H1 := Lib.hid h1
    have H2 := Lib.hid h2
    have HV := Lib.hid (vals_ok hvl hva)
    have HXL : Hid ((vs ++ [zeroVal]).length ≤ 301) := Lib.hid (by simp; omega)
    clear h1 h2 hva
    go_wp2_with (at_builtin; refine wpList_app rfl (.tmp 18) (.tmp 20) _ _ rfl rfl rfl (run_push elem_vals valLay _ w1 v1 vs zeroVal _ ho1 rfl H1.out H2.out hb1.size rfl) ?_; rintro v2 w2 ⟨ho2, hx2⟩)
    have hb2 : Below w.heap.size w1 w2 := hx2.below hb1.size (fun g hg => (ho1.lt g hg).1)
    have hpos : 0 < (vs ++ [zeroVal]).length := by simp
    clear hvl ho1
    generalize vs ++ [zeroVal] = xs at *
    obtain ⟨A2, c2, rfl, _, _⟩ := ho2.form
    have hel2 := (ho2.elems valLay.len rfl).more (S' := (· < w2.heap.size)) fun k hk => (ho2.lt k hk).2
    refine (encode A2 c2 xs w2 hel2 HV.out.1 HV.out.2).mono ?_
    rintro e w3 ⟨v3, rfl, ho3, hb3⟩
    obtain ⟨A3, c3, rfl, hc3, hm3⟩ := ho3.form
    have hb03 : Below w.heap.size w w3 := (hb1.trans hb2).trans (hb3.mono (by have := hb1.size; have := hb2.size; omega))
    have hr3 := (ho3.elems runLay.len rfl).more (S' := (· < w3.heap.size)) fun k hk => (ho3.lt k hk).2
    have hy3 := (hy.keep (Keeps.of_below hb03 fun _ h => h)).more (S' := (· < w3.heap.size)) fun k hk => Nat.lt_of_lt_of_le hk hb03.size
    have HXO := Lib.hid (canon_enc HV.out.2 HV.out.1)
    have HXD := Lib.hid (decRuns_enc xs)
    have HXP := Lib.hid (enc_pos hpos)
    clear hx hy hel2 ho2 ho3 hb1 hb2 hb3 hx2 hpos
    go_wp2_with fail
    refine (HCOL2.out w3 hy3).mono ?_
    rintro e w4 ⟨v4, us, rfl, ho4, hb4, _, hul, hua⟩
    obtain ⟨A4, c4, rfl, _, _⟩ := ho4.form
    have hel4 := (ho4.elems valLay.len rfl).more (S' := (· < w4.heap.size)) fun k hk => (ho4.lt k hk).2
    have hu50 : us.length ≤ 50 := by omega
    have hu4 : us.length ≤ 400 := by omega
    have HUA := Lib.hid hua
    have hr4 := (hr3.keep (Keeps.of_below hb4 fun _ h => h)).more (S' := (· < w4.heap.size)) fun k hk => Nat.lt_of_lt_of_le hk hb4.size
    clear hua ho4 hr3 hy3
    go_wp2_with fail
    refine (encode A4 c4 us w4 hel4 hu4 HUA.out).mono ?_
    rintro e w5 ⟨v5, rfl, ho5, hb5⟩
    obtain ⟨A5, c5, rfl, _, _⟩ := ho5.form
    have hu5 := (ho5.elems runLay.len rfl).more (S' := (· < w5.heap.size)) fun k hk => (ho5.lt k hk).2
    have hr5 := (hr4.keep (Keeps.of_below hb5 fun _ h => h)).more (S' := (· < w5.heap.size)) fun k hk => Nat.lt_of_lt_of_le hk hb5.size
    have hb05 : Below w.heap.size w w5 := (hb03.trans (hb4.mono hb03.size)).trans (hb5.mono (by have := hb03.size; have := hb4.size; omega))
    have HUO := Lib.hid (canon_enc HUA.out hu4)
    have HUD := Lib.hid (decRuns_enc us)
    clear ho5 hel4 hr4 hb03 hb4 hb5
    go_wp2_with fail
    refine (rleLen A5 c5 (encRuns us) w5 hu5 HUO.out).mono ?_
    rintro e w6 ⟨rfl, hb6⟩
    rw [HUD.out]
    have hu6 := (hu5.keep (Keeps.of_below hb6 fun _ h => h)).more (S' := (· < w6.heap.size)) fun k hk => Nat.lt_of_lt_of_le hk hb6.size
    have hr6 := (hr5.keep (Keeps.of_below hb6 fun _ h => h)).more (S' := (· < w6.heap.size)) fun k hk => Nat.lt_of_lt_of_le hk hb6.size
    clear hu5 hr5
    go_wp2_with fail
    refine (rleLen A3 c3 (encRuns xs) w6 hr6 HXO.out).mono ?_
    rintro e w7 ⟨rfl, hb7⟩
    rw [HXD.out]
    have hu7 := (hu6.keep (Keeps.of_below hb7 fun _ h => h)).more (S' := (· < w7.heap.size)) fun k hk => Nat.lt_of_lt_of_le hk hb7.size
    have hr7 := (hr6.keep (Keeps.of_below hb7 fun _ h => h)).more (S' := (· < w7.heap.size)) fun k hk => Nat.lt_of_lt_of_le hk hb7.size
    have hxl : xs.length ≤ 301 := HXL.out
    clear hu6 hr6
    have hb07 : Below w.heap.size w w7 := (hb05.trans (hb6.mono hb05.size)).trans (hb7.mono (by have := hb05.size; have := hb6.size; omega))
    clear hb05 hb6 hb7
    go_wp2_with fail
    refine (mod_any i _ w7 HI.out (by omega) (by omega)).mono ?_
    rintro e w8 ⟨m, rfl, hm, rfl⟩
    have hml : m ≤ xs.length := by omega
    have HS1 := Lib.hid (splice A3 A5 c3 c5 (encRuns xs) (encRuns us) m 0 w7 hr7 hu7 HXO.out HUO.out hc3 hm3 (by rw [HXD.out]; omega) (by rw [HXD.out, HUD.out]; omega))
    go_wp2_with fail
    refine HS1.out.mono ?_
    rintro e w9 ⟨v9, rfl, ho9, hb9⟩
    rw [HXD.out, HUD.out] at ho9
    have HBK := Lib.hid (splice_back (us := us) hml)
    have hys : ∀ v ∈ xs.take m ++ us ++ xs.drop (m + 0), v.err = 0 := by
      intro v hv
      rcases List.mem_append.1 hv with hv | hv
      · rcases List.mem_append.1 hv with hv | hv
        · exact HV.out.2 v (List.mem_of_mem_take hv)
        · exact HUA.out v hv
      · exact HV.out.2 v (List.mem_of_mem_drop hv)
    have hyl : (xs.take m ++ us ++ xs.drop (m + 0)).length = xs.length + us.length := by
      simp only [List.length_append, List.length_take, List.length_drop]
      omega
    clear HS1
    generalize xs.take m ++ us ++ xs.drop (m + 0) = ys at *
    have HYO := Lib.hid (canon_enc hys (by omega))
    have HYD := Lib.hid (decRuns_enc ys)
    obtain ⟨A9, c9, rfl, hc9, hm9⟩ := ho9.form
    have hy9 := (ho9.elems runLay.len rfl).more (S' := (· < w9.heap.size)) fun k hk => (ho9.lt k hk).2
    have hr9 := (hr7.keep (Keeps.of_below hb9 fun _ h => h)).more (S' := (· < w9.heap.size)) fun k hk => Nat.lt_of_lt_of_le hk hb9.size
    have HS2 := Lib.hid (splice A9 none c9 0 (encRuns ys) [] m us.length w9 hy9 (Elems.nil _ _ _) HYO.out (canon_enc (vs := []) (by simp) (by simp)) hc9 hm9 (by rw [HYD.out]; omega) (by rw [HYD.out]; simp [decRuns]; omega))
    have hb09 : Below w.heap.size w w9 := hb07.trans (hb9.mono hb07.size)
    clear hys ho9 hr7 hu7 hb07 hb9 hy9 hc9 hm9
    go_wp2_with fail
    refine HS2.out.mono ?_
    rintro e w10 ⟨v10, rfl, ho10, hb10⟩
    rw [HYD.out] at ho10
    have hfin : encRuns (ys.take m ++ decRuns [] ++ ys.drop (m + us.length)) = encRuns xs := by
      show encRuns (ys.take m ++ [] ++ ys.drop (m + us.length)) = _
      rw [HBK.out]
    rw [hfin] at ho10
    obtain ⟨A10, c10, rfl, _, _⟩ := ho10.form
    have hz := ho10.elems runLay.len rfl
    have hr10 := hr9.keep (Keeps.of_below hb10 fun _ h => h)
    have hmx : (encRuns xs).length ≤ maxLen := by have := HXO.out.len; unfold maxLen; omega
    have HEQ := Lib.hid (runsEqual A10 A3 c10 c3 (encRuns xs) (encRuns xs) w10 _ _ hz hr10 hmx hmx)
    have hgt : (0 : Int) < ((encRuns xs).length : Int) := by have := HXP.out; omega
    have hb010 : Below w.heap.size w w10 := hb09.trans (hb10.mono hb09.size)
    clear hfin ho10 hr9 hz hr10 HS2 hb09 hb10
    go_wp2_with fail
    refine HEQ.out.mono ?_
    rintro e w11 ⟨rfl, n11, rfl⟩
    go_wp2_with fail
    go_ret
    exact ⟨ret_bool (by simp; exact HXP.out), below_drewN hb010 _⟩
  · have hl' : l = ks.length := by omega
    have hmn : (ks.length : Int) ≤ 50 := by omega
    subst hl'
    clear hl h50
    go_enter Try.func5, Try.ntmps5
    go_wp2_with fail
    refine (column A c ns w hx HL.out HC.out HK.out).mono ?_
    rintro e w1 ⟨v1, vs, rfl, ho1, hb1, hvl, hva⟩
    have h1 : (vs.length + 1) * 32 ≤ 140737488355328 := by omega
    have h2 : vs.length + 1 ≤ maxLen := by unfold maxLen; omega
    have H1 := Lib.hid h1
    have H2 := Lib.hid h2
    have HV := Lib.hid (vals_ok hvl hva)
    have HXL : Hid ((vs ++ [zeroVal]).length ≤ 301) := Lib.hid (by simp; omega)
    clear h1 h2 hva
    go_wp2_with (at_builtin; refine wpList_app rfl (.tmp 18) (.tmp 20) _ _ rfl rfl rfl (run_push elem_vals valLay _ w1 v1 vs zeroVal _ ho1 rfl H1.out H2.out hb1.size rfl) ?_; rintro v2 w2 ⟨ho2, hx2⟩)
    have hb2 : Below w.heap.size w1 w2 := hx2.below hb1.size (fun g hg => (ho1.lt g hg).1)
    have hpos : 0 < (vs ++ [zeroVal]).length := by simp
    clear hvl ho1
    generalize vs ++ [zeroVal] = xs at *
    obtain ⟨A2, c2, rfl, _, _⟩ := ho2.form
    have hel2 := (ho2.elems valLay.len rfl).more (S' := (· < w2.heap.size)) fun k hk => (ho2.lt k hk).2
    refine (encode A2 c2 xs w2 hel2 HV.out.1 HV.out.2).mono ?_
    rintro e w3 ⟨v3, rfl, ho3, hb3⟩
    obtain ⟨A3, c3, rfl, hc3, hm3⟩ := ho3.form
    have hb03 : Below w.heap.size w w3 := (hb1.trans hb2).trans (hb3.mono (by have := hb1.size; have := hb2.size; omega))
    have hr3 := (ho3.elems runLay.len rfl).more (S' := (· < w3.heap.size)) fun k hk => (ho3.lt k hk).2
    have hy3 := (hy.keep (Keeps.of_below hb03 fun _ h => h)).more (S' := (· < w3.heap.size)) fun k hk => Nat.lt_of_lt_of_le hk hb03.size
    have HXO := Lib.hid (canon_enc HV.out.2 HV.out.1)
    have HXD := Lib.hid (decRuns_enc xs)
    have HXP := Lib.hid (enc_pos hpos)
    clear hx hy hel2 ho2 ho3 hb1 hb2 hb3 hx2 hpos
    go_wp2_with fail
    refine (HCOL2.out w3 hy3).mono ?_
    rintro e w4 ⟨v4, us, rfl, ho4, hb4, _, hul, hua⟩
    obtain ⟨A4, c4, rfl, _, _⟩ := ho4.form
    have hel4 := (ho4.elems valLay.len rfl).more (S' := (· < w4.heap.size)) fun k hk => (ho4.lt k hk).2
    have hu50 : us.length ≤ 50 := by omega
    have hu4 : us.length ≤ 400 := by omega
    have HUA := Lib.hid hua
    have hr4 := (hr3.keep (Keeps.of_below hb4 fun _ h => h)).more (S' := (· < w4.heap.size)) fun k hk => Nat.lt_of_lt_of_le hk hb4.size
    clear hua ho4 hr3 hy3
    go_wp2_with fail
    refine (encode A4 c4 us w4 hel4 hu4 HUA.out).mono ?_
    rintro e w5 ⟨v5, rfl, ho5, hb5⟩
    obtain ⟨A5, c5, rfl, _, _⟩ := ho5.form
    have hu5 := (ho5.elems runLay.len rfl).more (S' := (· < w5.heap.size)) fun k hk => (ho5.lt k hk).2
    have hr5 := (hr4.keep (Keeps.of_below hb5 fun _ h => h)).more (S' := (· < w5.heap.size)) fun k hk => Nat.lt_of_lt_of_le hk hb5.size
    have hb05 : Below w.heap.size w w5 := (hb03.trans (hb4.mono hb03.size)).trans (hb5.mono (by have := hb03.size; have := hb4.size; omega))
    have HUO := Lib.hid (canon_enc HUA.out hu4)
    have HUD := Lib.hid (decRuns_enc us)
    clear ho5 hel4 hr4 hb03 hb4 hb5
    go_wp2_with fail
    refine (rleLen A5 c5 (encRuns us) w5 hu5 HUO.out).mono ?_
    rintro e w6 ⟨rfl, hb6⟩
    rw [HUD.out]
    have hu6 := (hu5.keep (Keeps.of_below hb6 fun _ h => h)).more (S' := (· < w6.heap.size)) fun k hk => Nat.lt_of_lt_of_le hk hb6.size
    have hr6 := (hr5.keep (Keeps.of_below hb6 fun _ h => h)).more (S' := (· < w6.heap.size)) fun k hk => Nat.lt_of_lt_of_le hk hb6.size
    clear hu5 hr5
    go_wp2_with fail
    refine (rleLen A3 c3 (encRuns xs) w6 hr6 HXO.out).mono ?_
    rintro e w7 ⟨rfl, hb7⟩
    rw [HXD.out]
    have hu7 := (hu6.keep (Keeps.of_below hb7 fun _ h => h)).more (S' := (· < w7.heap.size)) fun k hk => Nat.lt_of_lt_of_le hk hb7.size
    have hr7 := (hr6.keep (Keeps.of_below hb7 fun _ h => h)).more (S' := (· < w7.heap.size)) fun k hk => Nat.lt_of_lt_of_le hk hb7.size
    have hxl : xs.length ≤ 301 := HXL.out
    clear hu6 hr6
    have hb07 : Below w.heap.size w w7 := (hb05.trans (hb6.mono hb05.size)).trans (hb7.mono (by have := hb05.size; have := hb6.size; omega))
    clear hb05 hb6 hb7
    go_wp2_with fail
    refine (mod_any i _ w7 HI.out (by omega) (by omega)).mono ?_
    rintro e w8 ⟨m, rfl, hm, rfl⟩
    have hml : m ≤ xs.length := by omega
    have HS1 := Lib.hid (splice A3 A5 c3 c5 (encRuns xs) (encRuns us) m 0 w7 hr7 hu7 HXO.out HUO.out hc3 hm3 (by rw [HXD.out]; omega) (by rw [HXD.out, HUD.out]; omega))
    go_wp2_with fail
    refine HS1.out.mono ?_
    rintro e w9 ⟨v9, rfl, ho9, hb9⟩
    rw [HXD.out, HUD.out] at ho9
    have HBK := Lib.hid (splice_back (us := us) hml)
    have hys : ∀ v ∈ xs.take m ++ us ++ xs.drop (m + 0), v.err = 0 := by
      intro v hv
      rcases List.mem_append.1 hv with hv | hv
      · rcases List.mem_append.1 hv with hv | hv
        · exact HV.out.2 v (List.mem_of_mem_take hv)
        · exact HUA.out v hv
      · exact HV.out.2 v (List.mem_of_mem_drop hv)
    have hyl : (xs.take m ++ us ++ xs.drop (m + 0)).length = xs.length + us.length := by
      simp only [List.length_append, List.length_take, List.length_drop]
      omega
    clear HS1
    generalize xs.take m ++ us ++ xs.drop (m + 0) = ys at *
    have HYO := Lib.hid (canon_enc hys (by omega))
    have HYD := Lib.hid (decRuns_enc ys)
    obtain ⟨A9, c9, rfl, hc9, hm9⟩ := ho9.form
    have hy9 := (ho9.elems runLay.len rfl).more (S' := (· < w9.heap.size)) fun k hk => (ho9.lt k hk).2
    have hr9 := (hr7.keep (Keeps.of_below hb9 fun _ h => h)).more (S' := (· < w9.heap.size)) fun k hk => Nat.lt_of_lt_of_le hk hb9.size
    have HS2 := Lib.hid (splice A9 none c9 0 (encRuns ys) [] m us.length w9 hy9 (Elems.nil _ _ _) HYO.out (canon_enc (vs := []) (by simp) (by simp)) hc9 hm9 (by rw [HYD.out]; omega) (by rw [HYD.out]; simp [decRuns]; omega))
    have hb09 : Below w.heap.size w w9 := hb07.trans (hb9.mono hb07.size)
    clear hys ho9 hr7 hu7 hb07 hb9 hy9 hc9 hm9
    go_wp2_with fail
    refine HS2.out.mono ?_
    rintro e w10 ⟨v10, rfl, ho10, hb10⟩
    rw [HYD.out] at ho10
    have hfin : encRuns (ys.take m ++ decRuns [] ++ ys.drop (m + us.length)) = encRuns xs := by
      show encRuns (ys.take m ++ [] ++ ys.drop (m + us.length)) = _
      rw [HBK.out]
    rw [hfin] at ho10
    obtain ⟨A10, c10, rfl, _, _⟩ := ho10.form
    have hz := ho10.elems runLay.len rfl
    have hr10 := hr9.keep (Keeps.of_below hb10 fun _ h => h)
    have hmx : (encRuns xs).length ≤ maxLen := by have := HXO.out.len; unfold maxLen; omega
    have HEQ := Lib.hid (runsEqual A10 A3 c10 c3 (encRuns xs) (encRuns xs) w10 _ _ hz hr10 hmx hmx)
    have hgt : (0 : Int) < ((encRuns xs).length : Int) := by have := HXP.out; omega
    have hb010 : Below w.heap.size w w10 := hb09.trans (hb10.mono hb09.size)
    clear hfin ho10 hr9 hz hr10 HS2 hb09 hb10
    go_wp2_with fail
    refine HEQ.out.mono ?_
    rintro e w11 ⟨rfl, n11, rfl⟩
    go_wp2_with fail
    go_ret
    exact ⟨ret_bool (by simp; exact HXP.out), below_drewN hb010 _⟩

end Go.Proofs.Ytimndhnbbmedbaa
