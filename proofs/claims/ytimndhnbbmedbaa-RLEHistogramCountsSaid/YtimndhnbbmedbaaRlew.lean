/-
  The walks of rle.Check, At, Decode, Len on a canonical column.
-/
import Derived.Test.YtimndhnbbmedbaaCol
namespace Go.Proofs.Ytimndhnbbmedbaa
open Go.RowKit

set_option maxRecDepth 100000 in
set_option maxHeartbeats 1000000 in
theorem check (A : Option Addr) (c : Nat) (rs : List Run) (w : World) (hx : Elems 4 Run.cs w (· < w.heap.size) A rs) (hc : Canon rs) :
    Calls Try.prog 11 #[.slice A rs.length c] w fun e w' => e = .returned (.int .i64 0) ∧ Below w.heap.size w w' := by
  have hl := hc.len
  have h' : ¬ (400 : Int) < (rs.length : Int) := by omega
  go_enter Try.func11, Try.ntmps11
  go_wp2_with fail
  go_loopw [3, 12] (fun n i wr => ∃ k : Nat, k ≤ rs.length ∧ i = .int .i64 k ∧ n = .int .i64 (tot rs k) ∧ Below w.heap.size w wr) (fun _ i _ => rs.length - (intOf i).toNat)
  case atStart => exact ⟨0, by omega, rfl, rfl, Below.refl _ _⟩
  case round =>
    obtain ⟨k, hk, rfl, rfl, hb⟩ := hrel
    by_cases hlt : k < rs.length
    · have hx' := hx.keep (Keeps.of_below hb fun _ h => h)
      obtain ⟨b, off, rfl, hbs, c0, c1, c2, c3⟩ := hx'.run hlt
      have hbw : b < wr.heap.size := by have := hb.size; omega
      have hr := hc.nice.1 _ (List.getElem_mem hlt)
      have hts := tot_succ hlt
      have htl := tot_le rs (k + 1)
      have hct := hc.tot
      have hz' : (vErr rs[k].v.kind rs[k].v.int rs[k].v.text != 0) = false := by have h := hr.1; unfold Val.err at h; simp [h]
      have hn1 : 1 ≤ rs[k].n := hr.2
      have hn2 : tot rs k + rs[k].n ≤ 100000 := by omega
      have HT := Lib.hid hts
      by_cases hk0 : k = 0
      · have hd0 : decide ((0 : Int) < (k : Int)) = false := by rw [decide_eq_false_iff_not]; omega
        have hd1 : decide (0 < k) = false := by rw [decide_eq_false_iff_not]; omega
        generalize rs[k] = x at *
        have HK := Lib.hid hk0
        clear hk0
        clear hts htl hct hr
        go_wp2_with fail
        refine (validate _ _ _ _).mono ?_
        rintro e w1 ⟨rfl, hb1⟩
        have hV := (hb1.block wr.heap.size (by simp)).trans (heap_alloc_new wr (.cells #[.int .i64 x.v.kind, .int .i64 x.v.int, .string x.v.text, .int .i64 (x.n : Int)] 45))
        have v0 := cell_of_row _ wr.heap.size 0 _ _ _ hV
        have v1 := cell_of_row _ wr.heap.size 1 _ _ _ hV
        have v2 := cell_of_row _ wr.heap.size 2 _ _ _ hV
        have v3 := cell_of_row _ wr.heap.size 3 _ _ _ hV
        clear hV
        go_wp2_with fail
        go_quiet (fail)
        go_wp2_with fail
        go_roundw
        case rel => exact ⟨k + 1, by omega, by go_num, val_int (by rw [HT.out, Int.natCast_add]), below_drewN ((hb.alloc (by have := hb.size; omega) _).trans (hb1.mono (by have := hb.size; simp; omega))) _⟩
        case measure => simp [intOf]; omega
      · have hd0 : decide ((0 : Int) < (k : Int)) = true := by rw [decide_eq_true_iff]; omega
        have hd1 : decide (0 < k) = true := by rw [decide_eq_true_iff]; omega
        obtain ⟨b', off', e', hbs', p0, p1, p2, p3⟩ := hx'.run (k := k - 1) (by omega)
        injection e' with e'
        injection e' with e1 e2
        subst e1 e2
        have hap := hc.nice.2 (k - 1) _ rs[k] (List.getElem?_eq_getElem (by omega)) (by rw [show k - 1 + 1 = k by omega]; exact List.getElem?_eq_getElem hlt)
        have hv := fun W => eql_val (rs[k - 1]'(by omega)).v.kind (rs[k - 1]'(by omega)).v.int rs[k].v.kind rs[k].v.int (rs[k - 1]'(by omega)).v.text rs[k].v.text W
        rw [Val.ext_iff'] at hv
        have hdq : decide ((rs[k - 1]'(by omega)).v = rs[k].v) = false := by simp [hap]
        rw [hdq] at hv
        have hi1 : (k : Int) - 1 < (rs.length : Int) := by omega
        have hi0 : (0 : Int) ≤ (k : Int) - 1 := by omega
        have hi2 : (1 : Int) ≤ (k : Int) := by omega
        clear hdq hap p3
        generalize rs[k] = x at *
        generalize (rs[k - 1]'(by omega)) = y at *
        have HK := Lib.hid hk0
        clear hk0
        clear hts htl hct hr
        go_wp2_with fail
        refine (validate _ _ _ _).mono ?_
        rintro e w1 ⟨rfl, hb1⟩
        have hV := (hb1.block wr.heap.size (by simp)).trans (heap_alloc_new wr (.cells #[.int .i64 x.v.kind, .int .i64 x.v.int, .string x.v.text, .int .i64 (x.n : Int)] 45))
        have v0 := cell_of_row _ wr.heap.size 0 _ _ _ hV
        have v1 := cell_of_row _ wr.heap.size 1 _ _ _ hV
        have v2 := cell_of_row _ wr.heap.size 2 _ _ _ hV
        have v3 := cell_of_row _ wr.heap.size 3 _ _ _ hV
        clear hV
        have q0 := (hb1.cell (p := ⟨b, off + (k - 1) * 4, none⟩) (by show b < _; simp; omega)).trans ((World.cell?_alloc_lt wr _ _ hbw).trans p0)
        have q1 := (hb1.cell (p := ⟨b, off + (k - 1) * 4 + 1, none⟩) (by show b < _; simp; omega)).trans ((World.cell?_alloc_lt wr _ _ hbw).trans p1)
        have q2 := (hb1.cell (p := ⟨b, off + (k - 1) * 4 + 2, none⟩) (by show b < _; simp; omega)).trans ((World.cell?_alloc_lt wr _ _ hbw).trans p2)
        go_wp2_with fail
        go_quiet (fail)
        go_wp2_with fail
        go_roundw
        case rel => exact ⟨k + 1, by omega, by go_num, val_int (by rw [HT.out, Int.natCast_add]), below_drewN ((hb.alloc (by have := hb.size; omega) _).trans (hb1.mono (by have := hb.size; simp; omega))) _⟩
        case measure => simp [intOf]; omega
    · go_wp2_with fail
      go_ret
      exact ⟨rfl, hb⟩

/-- What Decode leaves. -/
def DecodePost (w : World) (rs : List Run) (e : Ending) (w' : World) : Prop := ∃ v, e = .returned (.tuple #[v, .int .i64 0]) ∧ Own 3 Val.cs 26 w.heap.size w' v (decRuns rs) ∧ Below w.heap.size w w'

theorem decRuns_take {rs : List Run} {k : Nat} (hk : k < rs.length) : decRuns (rs.take (k + 1)) = decRuns (rs.take k) ++ List.replicate rs[k].n rs[k].v := by
  rw [List.take_succ_eq_append_getElem hk]
  simp only [decRuns, List.flatMap_append, List.flatMap_cons, List.flatMap_nil, List.append_nil]

set_option maxRecDepth 100000 in
set_option maxHeartbeats 1000000 in
theorem decode (A : Option Addr) (c : Nat) (rs : List Run) (w : World) (hx : Elems 4 Run.cs w (· < w.heap.size) A rs) (hc : Canon rs) :
    Calls Try.prog 12 #[.slice A rs.length c] w (DecodePost w rs) := by
  have hl := hc.len
  have hct := hc.tot
  go_enter Try.func12, Try.ntmps12
  go_wp2_with fail
  refine (check A c rs w hx hc).mono ?_
  rintro e w1 ⟨rfl, hb1⟩
  go_wp2_with fail
  go_loopw [5, 15] (fun o i wr => ∃ k : Nat, k ≤ rs.length ∧ i = .int .i64 k ∧ Own 3 Val.cs 26 w.heap.size wr o (decRuns (rs.take k)) ∧ Below w.heap.size w wr) (fun _ i _ => rs.length - (intOf i).toNat)
  case atStart => exact ⟨0, by omega, rfl, Own.nil _, hb1⟩
  case round =>
    obtain ⟨k, hk, rfl, ho, hb⟩ := hrel
    by_cases hlt : k < rs.length
    · obtain ⟨b, off, rfl, hbs, c0, c1, c2, c3⟩ := (hx.keep (Keeps.of_below hb fun _ h => h)).run hlt
      have hts := tot_succ hlt
      have htl := tot_le rs (k + 1)
      have hdl : (decRuns (rs.take k)).length + rs[k].n ≤ 100000 := by show tot rs k + _ ≤ _; omega
      have HT := Lib.hid (decRuns_take hlt)
      have hn0 : (0 : Int) ≤ (rs[k].n : Int) := by omega
      generalize decRuns (rs.take k) = ds at *
      generalize rs[k] = x at *
      have HO := Lib.hid ho
      have HX := Lib.hid hx
      clear ho hx hts htl hct hc
      obtain ⟨wo, rfl⟩ : ∃ wo : World, wo = wr := ⟨_, rfl⟩
      go_wp2_with fail
      go_loopw [5, 21] (fun o j wi => ∃ m : Nat, m ≤ x.n ∧ j = .int .i64 m ∧ Own 3 Val.cs 26 w.heap.size wi o (ds ++ List.replicate m x.v) ∧ Below w.heap.size w wi ∧ (∀ g, o.ownBlock = some g → g ≠ wo.heap.size) ∧ wi.heap[wo.heap.size]? = some (.cells #[.int .i64 x.v.kind, .int .i64 x.v.int, .string x.v.text, .int .i64 (x.n : Int)] 45 (0, 0))) (fun _ j _ => x.n - (intOf j).toNat)
      case atStart => exact ⟨0, by omega, rfl, by simpa using HO.out.alloc _, hb.alloc (by have := hb.size; omega) _, fun g hg => by have := (HO.out.lt g hg).2; omega, heap_alloc_new _ _⟩
      case round =>
        obtain ⟨m, hm, rfl, ho, hbi, hne, hV⟩ := hrel
        have v0 := cell_of_row _ wo.heap.size 0 _ _ _ hV
        have v1 := cell_of_row _ wo.heap.size 1 _ _ _ hV
        have v2 := cell_of_row _ wo.heap.size 2 _ _ _ hV
        have v3 := cell_of_row _ wo.heap.size 3 _ _ _ hV
        have HV := Lib.hid hV
        have hlen : (ds ++ List.replicate m x.v).length = ds.length + m := by simp
        have h1 : ((ds ++ List.replicate m x.v).length + 1) * 32 ≤ 140737488355328 := by rw [hlen]; omega
        have h2 : (ds ++ List.replicate m x.v).length + 1 ≤ maxLen := by rw [hlen]; unfold maxLen; omega
        have H1 := Lib.hid h1
        have H2 := Lib.hid h2
        have HP := Lib.hid ho
        clear hV h1 h2 hlen ho
        by_cases hmn : m < x.n
        · go_wp2_with (at_builtin; refine wpList_app rfl (.tmp 23) (.tmp 26) _ _ rfl rfl rfl (run_push elem_vals valLay _ _ u5 (ds ++ List.replicate m x.v) x.v _ HP.out rfl H1.out H2.out hbi.size rfl) ?_; rintro o2 w2 ⟨ho2, hx2⟩)
          go_roundw
          case rel =>
            have hlt2 : wo.heap.size < wr.heap.size := (Array.getElem?_eq_some_iff.1 HV.out).1
            exact ⟨m + 1, by omega, by go_num, by rw [List.replicate_succ', ← List.append_assoc]; exact ho2, hbi.trans (hx2.below hbi.size (fun g hg => (HP.out.lt g hg).1)), fun g hg e => hx2.ne (g := wo.heap.size) (fun e2 => hne _ e2 rfl) hlt2 (e ▸ hg), (hx2.grown.block _ hlt2 (fun e => hne _ e.symm rfl)).trans HV.out⟩
          case measure => simp [intOf]; omega
        · have hmx : m = x.n := by omega
          subst hmx
          go_wp2_with fail
          go_roundw
          case rel => exact ⟨k + 1, by omega, by go_num, by rw [HT.out]; exact HP.out, hbi⟩
          case measure => simp [intOf]; omega
    · have hkl : k = rs.length := by omega
      subst hkl
      rw [List.take_of_length_le (Nat.le_refl _)] at ho
      go_wp2_with fail
      go_ret2
      exact ⟨_, rfl, ho, hb⟩

set_option maxRecDepth 100000 in
set_option maxHeartbeats 1000000 in
theorem rleLen (A : Option Addr) (c : Nat) (rs : List Run) (w : World) (hx : Elems 4 Run.cs w (· < w.heap.size) A rs) (hc : Canon rs) :
    Calls Try.prog 13 #[.slice A rs.length c] w fun e w' => e = .returned (.tuple #[.int .i64 ((decRuns rs).length : Int), .int .i64 0]) ∧ Below w.heap.size w w' := by
  have hl := hc.len
  have hct := hc.tot
  go_enter Try.func13, Try.ntmps13
  go_wp2_with fail
  refine (check A c rs w hx hc).mono ?_
  rintro e w1 ⟨rfl, hb1⟩
  go_wp2_with fail
  go_loopw [5, 15] (fun n i wr => ∃ k : Nat, k ≤ rs.length ∧ i = .int .i64 k ∧ n = .int .i64 (tot rs k) ∧ Below w.heap.size w wr) (fun _ i _ => rs.length - (intOf i).toNat)
  case atStart => exact ⟨0, by omega, rfl, rfl, hb1⟩
  case round =>
    obtain ⟨k, hk, rfl, rfl, hb⟩ := hrel
    by_cases hlt : k < rs.length
    · obtain ⟨b, off, rfl, hbs, c0, c1, c2, c3⟩ := (hx.keep (Keeps.of_below hb fun _ h => h)).run hlt
      have hts := tot_succ hlt
      have htl := tot_le rs (k + 1)
      have hn2 : tot rs k + rs[k].n ≤ 100000 := by omega
      have HT := Lib.hid hts
      generalize rs[k] = x at *
      clear hts htl hct
      go_wp2_with fail
      go_roundw
      case rel => exact ⟨k + 1, by omega, by go_num, val_int (by rw [HT.out, Int.natCast_add]), hb.alloc (by have := hb.size; omega) _⟩
      case measure => simp [intOf]; omega
    · have hkl : k = rs.length := by omega
      have HT := Lib.hid (tot_all rs)
      subst hkl
      go_wp2_with fail
      go_ret2
      exact ⟨ret_tup_int (by rw [HT.out]), hb⟩

theorem decRuns_at {rs : List Run} {k i : Nat} (hk : k < rs.length) (h1 : tot rs k ≤ i) (h2 : i < tot rs k + rs[k].n) (hi : i < (decRuns rs).length) : (decRuns rs)[i] = rs[k].v := by
  have e : decRuns rs = decRuns (rs.take k) ++ (List.replicate rs[k].n rs[k].v ++ decRuns (rs.drop (k + 1))) := by
    conv => lhs; rw [← List.take_append_drop k rs, List.drop_eq_getElem_cons hk]
    simp only [decRuns, List.flatMap_append, List.flatMap_cons]
  have hl : (decRuns (rs.take k)).length = tot rs k := rfl
  have hg : (decRuns rs)[i]? = some rs[k].v := by
    rw [e, List.getElem?_append_right (by omega), hl, List.getElem?_append_left (by rw [List.length_replicate]; omega), List.getElem?_replicate, if_pos (by omega)]
  rw [List.getElem?_eq_getElem hi] at hg
  exact Option.some.inj hg

/-- What At leaves. -/
def AtPost (w : World) (v : Val) (e : Ending) (w' : World) : Prop := e = .returned (.tuple #[.agg #[.int .i64 v.kind, .int .i64 v.int, .string v.text], .int .i64 0]) ∧ Below w.heap.size w w'

set_option maxRecDepth 100000 in
set_option maxHeartbeats 1000000 in
theorem rleAt (A : Option Addr) (c : Nat) (rs : List Run) (i : Nat) (w : World) (hx : Elems 4 Run.cs w (· < w.heap.size) A rs) (hc : Canon rs) (hi : i < (decRuns rs).length) :
    Calls Try.prog 10 #[.slice A rs.length c, .int .i64 i] w (AtPost w (decRuns rs)[i]) := by
  have hl := hc.len
  have hct := hc.tot
  go_enter Try.func10, Try.ntmps10
  go_wp2_with fail
  refine (check A c rs _ ((hx.keep fun k hk => Below.heap_alloc w _ k hk).more fun k hk => by simp; omega) hc).mono ?_
  rintro e w1 ⟨rfl, hb1⟩
  have hb2 : Below w.heap.size w w1 := ((Below.refl _ _).alloc (Nat.le_refl _) _).trans (hb1.mono (by simp))
  have hB0 := (hb1.block w.heap.size (by simp)).trans (heap_alloc_new w _)
  have hi0 : (0 : Int) ≤ (i : Int) := by omega
  go_wp2_with fail
  go_loopw [1, 19] (fun n i' wr => ∃ k j : Nat, k ≤ rs.length ∧ i' = .int .i64 k ∧ n = .int .i64 j ∧ tot rs k + j = i ∧ Below w.heap.size w wr ∧ w.heap.size < wr.heap.size ∧ wr.heap[w.heap.size]? = some (.cells #[.int .i64 0, .int .i64 0, .string ByteArray.empty] 26 (0, 0))) (fun _ i' _ => rs.length - (intOf i').toNat)
  case atStart => exact ⟨0, i, by omega, rfl, rfl, by rw [tot_zero]; omega, hb2, by have := hb1.size; simp at this; omega, hB0⟩
  case round =>
    obtain ⟨k, j, hk, rfl, rfl, htj, hb, hsz, hB⟩ := hrel
    clear hB0 hb2 hb1
    by_cases hlt : k < rs.length
    · obtain ⟨b, off, rfl, hbs, c0, c1, c2, c3⟩ := (hx.keep (Keeps.of_below hb fun _ h => h)).run hlt
      have hts := tot_succ hlt
      have htl := tot_le rs (k + 1)
      have hn2 : rs[k].n ≤ 100000 := by omega
      have hj2 : j ≤ 100000 := by omega
      by_cases hj : j < rs[k].n
      · have HV := Lib.hid (decRuns_at hlt (by omega) (by omega) hi)
        have b0 := cell_of_row _ w.heap.size 0 _ _ _ hB
        have b1 := cell_of_row _ w.heap.size 1 _ _ _ hB
        have b2 := cell_of_row _ w.heap.size 2 _ _ _ hB
        have z0 := frozen_of_row _ w.heap.size 0 _ _ hB
        have z1 := frozen_of_row _ w.heap.size 1 _ _ hB
        have z2 := frozen_of_row _ w.heap.size 2 _ _ hB
        have HB := Lib.hid hB
        generalize rs[k] = x at *
        have HX := Lib.hid hx
        have HTJ := Lib.hid htj
        clear hts htl hct hB htj hx
        go_wp2_with fail
        have e0 := heap_setCell_same _ w.heap.size 0 _ _ (.int .i64 x.v.kind) HB.out
        have e1 := heap_setCell_same _ w.heap.size 1 _ _ (.int .i64 x.v.int) e0
        have e2 := heap_setCell_same _ w.heap.size 2 _ _ (.string x.v.text) e1
        have e3 := (Below.heap_alloc _ (.cells #[.int .i64 x.v.kind, .int .i64 x.v.int, .string x.v.text, .int .i64 (x.n : Int)] 45) w.heap.size (by simpa [World.setCell] using hsz)).trans e2
        have r0 := cell_of_row _ w.heap.size 0 _ _ _ e3
        have r1 := cell_of_row _ w.heap.size 1 _ _ _ e3
        have r2 := cell_of_row _ w.heap.size 2 _ _ _ e3
        simp at r0 r1 r2
        refine bodyPost_ret (v := .tuple #[.agg #[.int .i64 x.v.kind, .int .i64 x.v.int, .string x.v.text], .int .i64 0]) (by simp [results, Try.results10, go_sem, r0, r1, r2]) rfl ?_
        rw [HV.out]
        exact ⟨rfl, (((hb.setCell (p := ⟨w.heap.size, 0, none⟩) (Nat.le_refl _) _).setCell (p := ⟨w.heap.size, 1, none⟩) (Nat.le_refl _) _).setCell (p := ⟨w.heap.size, 2, none⟩) (Nat.le_refl _) _).alloc (by simp [World.setCell]; omega) _⟩
      · have HT := Lib.hid hts
        generalize rs[k] = x at *
        have HX := Lib.hid hx
        have HTJ := Lib.hid htj
        have HB := Lib.hid hB
        clear hts htl hct hB htj hx
        go_wp2_with fail
        go_roundw
        case rel => exact ⟨k + 1, j - x.n, by omega, by go_num, val_int (by omega), by have := HTJ.out; rw [HT.out]; omega, hb.alloc (by omega) _, by simp; omega, (Below.heap_alloc _ _ _ (by omega)).trans HB.out⟩
        case measure => simp [intOf]; omega
    · exfalso
      have := tot_all rs
      have hkl : k = rs.length := by omega
      subst hkl
      omega

end Go.Proofs.Ytimndhnbbmedbaa
