/-
  The walk of the law BitmapRoundTrip.
-/
import Derived.Test.YthobibjbpbnhnaaDoorIxw
import Derived.Test.YthobibjbpbnhnaaDoorBv
import Derived.Test.YthobibjbpbnhnaaDoorCnt
namespace Go.Proofs.YthobibjbpbnhnaaDoor
open Go.RowKit

/-- The numbers of the bitmap: the first m, one, zero. -/
def rtNums (xs : List Int) (m : Nat) : List Int := xs.take m ++ [1, 0]
theorem rtNums_len {xs : List Int} {m : Nat} (h : m ≤ xs.length) : (rtNums xs m).length = m + 2 := by
  unfold rtNums
  rw [List.length_append, List.length_take]
  simp
  omega
theorem rtNums_idx {xs : List Int} {m : Nat} (h : m ≤ xs.length) : m ∈ idx (rtNums xs m) (rtNums xs m).length := by
  have hlen := rtNums_len h
  unfold idx
  rw [List.mem_filter]
  refine ⟨List.mem_range.2 (by omega), ?_⟩
  unfold rtNums
  rw [List.getD_eq_getElem?_getD, List.getElem?_append_right (by rw [List.length_take]; omega)]
  have : m - (List.take m xs).length = 0 := by rw [List.length_take]; omega
  rw [this]
  rfl

theorem two_elems (W : World) (x y : Int) : Elems 1 intCs (W.alloc (.cells #[.int .i64 x, .int .i64 y] 3)) (· = W.heap.size) (some ⟨W.heap.size, 0, none⟩) [x, y] := fun _ => by
  refine ⟨_, _, rfl, rfl, fun i z hi j u hj => ?_⟩
  rw [cell_of_row _ W.heap.size _ _ 3 (0, 0) (heap_alloc_new W _)]
  match i, j, hi, hj with
  | 0, 0, hi, hj => simp at hi; subst hi; simpa [intCs] using hj
  | 1, 0, hi, hj => simp at hi; subst hi; simpa [intCs] using hj
  | 0, j + 1, hi, hj => simp [intCs] at hj
  | 1, j + 1, hi, hj => simp [intCs] at hj
  | i + 2, _, hi, _ => simp at hi

set_option maxRecDepth 100000 in
set_option maxHeartbeats 2000000 in
theorem roundtrip_law (A : Option Addr) (c : Nat) (xs : List Int) (w : World) (hx : Elems 1 intCs w (· < w.heap.size) A xs) (hlc : xs.length ≤ c) (hc : c ≤ maxLen) (_hok : ∀ n ∈ xs, I64 n) (hT : Tab w) :
    Calls Tryd.prog 3 #[.slice A xs.length c] w fun e w' => e = .returned (.bool true) ∧ Below w.heap.size w w' := by
  unfold maxLen at hc
  obtain ⟨m, hm⟩ : ∃ m : Nat, m = min xs.length 400 := ⟨_, rfl⟩
  have hx1 : (xs.length : Int) ≤ (c : Int) := by omega
  have h4c : 400 ≤ xs.length → (400 : Int) ≤ (c : Int) := by omega
  have hmx : m ≤ xs.length := by omega
  have hm4 : m ≤ 400 := by omega
  have htx : m = (xs.take m).length := by rw [List.length_take]; omega
  have HCX : Hid (∀ k, k = m → Calls Tryd.prog 4 #[.slice A k c] w fun e w' => ∃ v, e = .returned v ∧ Own 1 intCs 3 w.heap.size w' v (xs.take m) ∧ Below w.heap.size w w') := Lib.hid fun k hk => by subst hk; exact clone_ints intLay A k c (xs.take k) w _ (hx.take k) (fun _ h => h) htx (by omega)
  have H1 : Hid (((xs.take m).length + ([1, 0] : List Int).length) * 8 ≤ 140737488355328) := Lib.hid (by rw [← htx]; simp; omega)
  have H2 : Hid ((xs.take m).length + ([1, 0] : List Int).length ≤ maxLen) := Lib.hid (by rw [← htx]; unfold maxLen; simp; omega)
  have HN : Hid (2 = ([1, 0] : List Int).length) := Lib.hid rfl
  have HL := Lib.hid (rtNums_len hmx)
  have HI := Lib.hid (rtNums_idx hmx)
  have HTT := Lib.hid hT
  have HKM : Hid (xs.length = m ∨ 400 = m) := Lib.hid (by omega)
  have HKC : Hid ((xs.length ≤ 400 → xs.length = m) ∧ (400 < xs.length → 400 = m)) := Lib.hid (by omega)
  by_cases h4 : xs.length ≤ 400
  · have hmin : min (xs.length : Int) 400 = (xs.length : Int) := by omega
    have HK : Hid (xs.length = m) := Lib.hid (HKC.out.1 h4)
    clear hx htx hT hlc hc hm
    go_enter Tryd.func3, Tryd.ntmps3
    go_wp2_with fail
    refine (HCX.out _ HK.out).mono ?_
    rintro e w1 ⟨v1, rfl, ho1, hb1⟩
    have HE : Hid (∀ W : World, Elems 1 intCs (W.alloc (.cells #[.int .i64 1, .int .i64 0] 3)) (· = W.heap.size) (some ⟨W.heap.size, 0, none⟩) [1, 0]) := Lib.hid fun W => two_elems W 1 0
    have HO1 := Lib.hid (ho1.alloc (.cells #[.int .i64 1, .int .i64 0] 3))
    have hsz1 : w.heap.size ≤ (w1.alloc (.cells #[.int .i64 1, .int .i64 0] 3)).heap.size := le_size1 hb1.size _
    go_wp2_with (at_builtin; refine wpList_app rfl (.tmp 15) (.tmp 16) _ _ rfl rfl rfl (run_pushs elem_ints intLay _ (w1.alloc (.cells #[.int .i64 1, .int .i64 0] 3)) v1 (xs.take m) HO1.out (HE.out w1) HN.out H1.out H2.out hsz1) ?_; rintro v2 w2 ⟨ho2, hx2⟩; obtain ⟨A2, m2, c2, rfl, hm2⟩ := ho2.form')
    have hb2 : Below w.heap.size w w2 := (hb1.alloc hb1.size (.cells #[.int .i64 1, .int .i64 0] 3)).trans (hx2.below (base := w.heap.size) hsz1 (fun g hg => (HO1.out.lt g hg).1))
    have hla : (rtNums xs m).length = m2 := hm2
    have hel2 : Elems 1 intCs w2 (· < w2.heap.size) A2 (rtNums xs m) := (ho2.elems intLay.len rfl).more fun k hk => (ho2.lt k hk).2
    have hN4 : m2 ≤ 402 := by have := HL.out; omega
    have hN1 : 1 ≤ m2 := by have := HL.out; omega
    have HBA0 := bitsOf A2 c2 (rtNums xs m) w2 hel2 (by omega) (by omega)
    have hGA := good_bitG (rtNums xs m)
    have hix := ixs_bitG (rtNums xs m)
    have hpc := pcs_all (rtNums xs m)
    have hfg : fromG (rtNums xs m).length (idx (rtNums xs m) (rtNums xs m).length) = bitG (rtNums xs m) := rfl
    have hil := idx_lt (rtNums xs m) (rtNums xs m).length
    have hin := idx_len (rtNums xs m) (rtNums xs m).length
    have hip := List.length_pos_of_mem HI.out
    rw [hla] at HBA0 hGA hix hpc hfg hil hin hip
    generalize bitG (rtNums xs m) = ga at *
    generalize idx (rtNums xs m) m2 = is at *
    rw [← hpc] at hip
    have HBA := Lib.hid HBA0
    have HGA := Lib.hid hGA
    have HIX := Lib.hid hix
    have HPC := Lib.hid hpc
    have HFG := Lib.hid hfg
    have HIL := Lib.hid hil
    have hTT := HTT.out.keep hb2 HTT.out.lt
    have HT2 := Lib.hid hTT
    clear HBA0 hGA hel2 hla hm2 ho2 ho1 hx2 hb1 hix hpc hfg hil HL HI HO1 HE H1 H2 HN HCX hsz1 HKM HKC hTT
    refine HBA.out.mono ?_
    rintro e w3 ⟨v3, rfl, hm3, hb3⟩
    obtain ⟨Aa, ma, ca, rfl, Ba⟩ := bv_new hm3 fun k hk => hk.2
    have hb03 : Below w.heap.size w w3 := hb2.trans (hb3.mono hb2.size)
    have hb13 := hb03.alloc hb03.size (.cells #[.int .i64 m2, .slice Aa ma ca] 25)
    obtain ⟨ea1, ea2⟩ := Ba.elems
    have HIN0 := indices m2 Aa ca ga _ ea2 HGA.out (by omega) hN1 (HTT.out.keep hb13 HTT.out.lt)
    rw [← ea1, HIX.out] at HIN0
    have HIN := Lib.hid HIN0
    have HBa := Lib.hid Ba
    have HB3 := Lib.hid hb13
    have a0 := Ba.c0
    have a1 := Ba.c1
    have al := Ba.lt
    clear HIN0 ea1 ea2 hm3 hb3 hb03 hb13 hb2 Ba HBA
    go_wp2_with fail
    refine HIN.out.mono ?_
    rintro e w4 ⟨v4, rfl, ho4, hb4⟩
    have hb04 := HB3.out.trans (hb4.mono HB3.out.size)
    obtain ⟨A4, m4, c4, rfl, hm4⟩ := ho4.form'
    have el4 := (ho4.elems natLay.len rfl).more (S' := (· < w4.heap.size)) fun k hk => (ho4.lt k hk).2
    have HFX0 := fromIndices m2 A4 c4 is w4 el4 HIL.out (by omega) (by omega) hN1
    rw [hm4, HFG.out] at HFX0
    have HFX := Lib.hid HFX0
    have Ba4 := HBa.out.keep hb4
    have HBa4 := Lib.hid Ba4
    have HB4 := Lib.hid hb04
    rw [HPC.out] at hip
    rw [hm4] at hip hin
    have hne : (((m4 : Nat) : Int) == 0) = false := by rw [beq_eq_false_iff_ne]; omega
    clear HFX0 el4 ho4 hb4 hb04 a0 a1 al Ba4 HBa HIN
    go_wp2_with fail
    refine HFX.out.mono ?_
    rintro e w5 ⟨v5, rfl, hm5, hb5⟩
    obtain ⟨Ab, mb, cb, rfl, Bb⟩ := bv_new hm5 fun k hk => hk.2
    have hb05 := HB4.out.trans (hb5.mono HB4.out.size)
    have hb15 := hb05.alloc hb05.size (.cells #[.int .i64 m2, .slice Ab mb cb] 25)
    have Ba5 := (HBa4.out.keep hb5).alloc (.cells #[.int .i64 m2, .slice Ab mb cb] 25)
    obtain ⟨ea1, ea2⟩ := Ba5.elems
    have HCN0 := count m2 Aa ca ga _ ea2 HGA.out (by omega) hN1
    unfold CountPost at HCN0
    rw [← ea1, HPC.out, hm4] at HCN0
    have HCN := Lib.hid HCN0
    have HBa5 := Lib.hid Ba5
    have HBb5 := Lib.hid Bb
    have HB5 := Lib.hid hb15
    have b0 := Ba5.c0
    have b1 := Ba5.c1
    have bl := Ba5.lt
    clear HCN0 ea1 ea2 hm5 hb5 hb05 hb15 Ba5 Bb HBa4 HFX
    go_wp2_with fail
    refine HCN.out.mono ?_
    rintro e w6 ⟨rfl, hb6⟩
    have hb06 := HB5.out.trans (hb6.mono HB5.out.size)
    have HB6 := Lib.hid hb06
    have Xa := HBa5.out.keep hb6
    have Xb := HBb5.out.keep hb6
    have xa0 := Xa.c0
    have xa1 := Xa.c1
    have xb0 := Xb.c0
    have xb1 := Xb.c1
    obtain ⟨ea1, ea2⟩ := Xa.elems
    obtain ⟨eb1, eb2⟩ := Xb.elems
    have hlen : (comp ga).length ≤ 1000000 := by
      have h1 := ws_len (wc_comp HGA.out.le)
      rw [exp_comp HGA.out.le, HGA.out.len] at h1
      have h2 := gc_le (n := m2) (by omega)
      omega
    have HEQ0 := intsEqual Ab Aa cb ca (comp ga) w6 _ _ eb2 ea2 hlen
    have e3 : mb = ma := eb1.trans ea1.symm
    rw [← ea1] at HEQ0
    subst e3
    have HEQ := Lib.hid HEQ0
    clear HEQ0 ea1 ea2 eb1 eb2 hb6 hb06 Xa Xb b0 b1 bl HBa5 HBb5 HCN hlen
    go_wp2_with fail
    refine HEQ.out.mono ?_
    rintro e w7 ⟨rfl, n7, rfl⟩
    go_wp2_with fail
    go_ret
    exact ⟨rfl, below_drewN HB6.out _⟩
  · have h4d := h4c (by omega)
    have h4e : 400 < xs.length := by omega
    have h4f : (400 : Int) < (xs.length : Int) := by omega
    have h4g : min (xs.length : Int) 400 = 400 := by omega
    have h4h : ¬ ((xs.length : Int) ≤ 400) := by omega
    have h4i : ¬ ((xs.length : Int) < 400) := by omega
    have HK : Hid (400 = m) := Lib.hid (HKC.out.2 h4e)
    clear hx htx hT hlc hc hm
    go_enter Tryd.func3, Tryd.ntmps3
    go_wp2_with fail
    refine (HCX.out _ HK.out).mono ?_
    rintro e w1 ⟨v1, rfl, ho1, hb1⟩
    have HE : Hid (∀ W : World, Elems 1 intCs (W.alloc (.cells #[.int .i64 1, .int .i64 0] 3)) (· = W.heap.size) (some ⟨W.heap.size, 0, none⟩) [1, 0]) := Lib.hid fun W => two_elems W 1 0
    have HO1 := Lib.hid (ho1.alloc (.cells #[.int .i64 1, .int .i64 0] 3))
    have hsz1 : w.heap.size ≤ (w1.alloc (.cells #[.int .i64 1, .int .i64 0] 3)).heap.size := le_size1 hb1.size _
    go_wp2_with (at_builtin; refine wpList_app rfl (.tmp 15) (.tmp 16) _ _ rfl rfl rfl (run_pushs elem_ints intLay _ (w1.alloc (.cells #[.int .i64 1, .int .i64 0] 3)) v1 (xs.take m) HO1.out (HE.out w1) HN.out H1.out H2.out hsz1) ?_; rintro v2 w2 ⟨ho2, hx2⟩; obtain ⟨A2, m2, c2, rfl, hm2⟩ := ho2.form')
    have hb2 : Below w.heap.size w w2 := (hb1.alloc hb1.size (.cells #[.int .i64 1, .int .i64 0] 3)).trans (hx2.below (base := w.heap.size) hsz1 (fun g hg => (HO1.out.lt g hg).1))
    have hla : (rtNums xs m).length = m2 := hm2
    have hel2 : Elems 1 intCs w2 (· < w2.heap.size) A2 (rtNums xs m) := (ho2.elems intLay.len rfl).more fun k hk => (ho2.lt k hk).2
    have hN4 : m2 ≤ 402 := by have := HL.out; omega
    have hN1 : 1 ≤ m2 := by have := HL.out; omega
    have HBA0 := bitsOf A2 c2 (rtNums xs m) w2 hel2 (by omega) (by omega)
    have hGA := good_bitG (rtNums xs m)
    have hix := ixs_bitG (rtNums xs m)
    have hpc := pcs_all (rtNums xs m)
    have hfg : fromG (rtNums xs m).length (idx (rtNums xs m) (rtNums xs m).length) = bitG (rtNums xs m) := rfl
    have hil := idx_lt (rtNums xs m) (rtNums xs m).length
    have hin := idx_len (rtNums xs m) (rtNums xs m).length
    have hip := List.length_pos_of_mem HI.out
    rw [hla] at HBA0 hGA hix hpc hfg hil hin hip
    generalize bitG (rtNums xs m) = ga at *
    generalize idx (rtNums xs m) m2 = is at *
    rw [← hpc] at hip
    have HBA := Lib.hid HBA0
    have HGA := Lib.hid hGA
    have HIX := Lib.hid hix
    have HPC := Lib.hid hpc
    have HFG := Lib.hid hfg
    have HIL := Lib.hid hil
    have hTT := HTT.out.keep hb2 HTT.out.lt
    have HT2 := Lib.hid hTT
    clear HBA0 hGA hel2 hla hm2 ho2 ho1 hx2 hb1 hix hpc hfg hil HL HI HO1 HE H1 H2 HN HCX hsz1 HKM HKC hTT
    refine HBA.out.mono ?_
    rintro e w3 ⟨v3, rfl, hm3, hb3⟩
    obtain ⟨Aa, ma, ca, rfl, Ba⟩ := bv_new hm3 fun k hk => hk.2
    have hb03 : Below w.heap.size w w3 := hb2.trans (hb3.mono hb2.size)
    have hb13 := hb03.alloc hb03.size (.cells #[.int .i64 m2, .slice Aa ma ca] 25)
    obtain ⟨ea1, ea2⟩ := Ba.elems
    have HIN0 := indices m2 Aa ca ga _ ea2 HGA.out (by omega) hN1 (HTT.out.keep hb13 HTT.out.lt)
    rw [← ea1, HIX.out] at HIN0
    have HIN := Lib.hid HIN0
    have HBa := Lib.hid Ba
    have HB3 := Lib.hid hb13
    have a0 := Ba.c0
    have a1 := Ba.c1
    have al := Ba.lt
    clear HIN0 ea1 ea2 hm3 hb3 hb03 hb13 hb2 Ba HBA
    go_wp2_with fail
    refine HIN.out.mono ?_
    rintro e w4 ⟨v4, rfl, ho4, hb4⟩
    have hb04 := HB3.out.trans (hb4.mono HB3.out.size)
    obtain ⟨A4, m4, c4, rfl, hm4⟩ := ho4.form'
    have el4 := (ho4.elems natLay.len rfl).more (S' := (· < w4.heap.size)) fun k hk => (ho4.lt k hk).2
    have HFX0 := fromIndices m2 A4 c4 is w4 el4 HIL.out (by omega) (by omega) hN1
    rw [hm4, HFG.out] at HFX0
    have HFX := Lib.hid HFX0
    have Ba4 := HBa.out.keep hb4
    have HBa4 := Lib.hid Ba4
    have HB4 := Lib.hid hb04
    rw [HPC.out] at hip
    rw [hm4] at hip hin
    have hne : (((m4 : Nat) : Int) == 0) = false := by rw [beq_eq_false_iff_ne]; omega
    clear HFX0 el4 ho4 hb4 hb04 a0 a1 al Ba4 HBa HIN
    go_wp2_with fail
    refine HFX.out.mono ?_
    rintro e w5 ⟨v5, rfl, hm5, hb5⟩
    obtain ⟨Ab, mb, cb, rfl, Bb⟩ := bv_new hm5 fun k hk => hk.2
    have hb05 := HB4.out.trans (hb5.mono HB4.out.size)
    have hb15 := hb05.alloc hb05.size (.cells #[.int .i64 m2, .slice Ab mb cb] 25)
    have Ba5 := (HBa4.out.keep hb5).alloc (.cells #[.int .i64 m2, .slice Ab mb cb] 25)
    obtain ⟨ea1, ea2⟩ := Ba5.elems
    have HCN0 := count m2 Aa ca ga _ ea2 HGA.out (by omega) hN1
    unfold CountPost at HCN0
    rw [← ea1, HPC.out, hm4] at HCN0
    have HCN := Lib.hid HCN0
    have HBa5 := Lib.hid Ba5
    have HBb5 := Lib.hid Bb
    have HB5 := Lib.hid hb15
    have b0 := Ba5.c0
    have b1 := Ba5.c1
    have bl := Ba5.lt
    clear HCN0 ea1 ea2 hm5 hb5 hb05 hb15 Ba5 Bb HBa4 HFX
    go_wp2_with fail
    refine HCN.out.mono ?_
    rintro e w6 ⟨rfl, hb6⟩
    have hb06 := HB5.out.trans (hb6.mono HB5.out.size)
    have HB6 := Lib.hid hb06
    have Xa := HBa5.out.keep hb6
    have Xb := HBb5.out.keep hb6
    have xa0 := Xa.c0
    have xa1 := Xa.c1
    have xb0 := Xb.c0
    have xb1 := Xb.c1
    obtain ⟨ea1, ea2⟩ := Xa.elems
    obtain ⟨eb1, eb2⟩ := Xb.elems
    have hlen : (comp ga).length ≤ 1000000 := by
      have h1 := ws_len (wc_comp HGA.out.le)
      rw [exp_comp HGA.out.le, HGA.out.len] at h1
      have h2 := gc_le (n := m2) (by omega)
      omega
    have HEQ0 := intsEqual Ab Aa cb ca (comp ga) w6 _ _ eb2 ea2 hlen
    have e3 : mb = ma := eb1.trans ea1.symm
    rw [← ea1] at HEQ0
    subst e3
    have HEQ := Lib.hid HEQ0
    clear HEQ0 ea1 ea2 eb1 eb2 hb6 hb06 Xa Xb b0 b1 bl HBa5 HBb5 HCN hlen
    go_wp2_with fail
    refine HEQ.out.mono ?_
    rintro e w7 ⟨rfl, n7, rfl⟩
    go_wp2_with fail
    go_ret
    exact ⟨rfl, below_drewN HB6.out _⟩

end Go.Proofs.YthobibjbpbnhnaaDoor
