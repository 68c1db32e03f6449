/-
  The walks of slices.Delete of one element and of slices.Clone: entries, nodes, keys. (Printed by slops.py.)
  The nodes of a tree in memory: whose each block is, what each node holds, what a change of one field leaves. No program's walk.
-/
import Derived.Test.YtjdcnkbkbcfhfaaHm05
namespace Go.Proofs.Ytjdcnkbkbcfhfaa
open Go.RowKit

set_option maxRecDepth 100000 in
set_option maxHeartbeats 2000000 in
theorem delEnt_in (g n c i : Nat) (w : World) {cur : Array Value} {D : List Value} (hg : w.heap[g]? = some (.cells cur 81 (0, 0))) (hs : cur.size = c * 2) (hin : i < n) (hnc : n ≤ c) (hcm : c ≤ 9223372036854775807)
    (hD : (cur.toList.drop ((i + 1) * 2)).take ((n - (i + 1)) * 2) = D) (hDl : D.length = (n - (i + 1)) * 2) (hD1 : ∀ v ∈ D, v.oneCell' = true) (hl : n ≤ 1000) :
    Calls Try.prog 75 #[.slice (some ⟨g, 0, none⟩) n c, .int .i64 i, .int .i64 ((i : Int) + 1)] w fun e w' => ∃ vs : List Value, vs.length = 1 * 2 ∧ e = .returned (.slice (some ⟨g, 0, none⟩) (n - 1) c) ∧ w' = (w.drew.setCells g (i * 2) D).setCells g ((n - 1) * 2) vs := by
  obtain ⟨m, hm⟩ : ∃ m, m = n - 1 := ⟨_, rfl⟩
  obtain rfl : n = m + 1 := by omega
  have h2 : ¬ (c = i) := by omega
  have h3 : ¬ ((i : Int) = (i : Int) + 1) := by omega
  have h5 : ¬ (c = m) := by omega
  have hb1 : (0 : Int) ≤ (i : Int) + 1 := by omega
  have hb2 : (i : Int) + 1 ≤ (m : Int) + 1 := by omega
  have hb3 : (i : Int) ≤ (m : Int) + 1 := by omega
  have hb4 : (m : Int) + 1 ≤ (c : Int) := by omega
  have hb5 : (i : Int) ≤ (i : Int) + 1 := by omega
  have hb6 : (i : Int) ≤ (c : Int) := by omega
  have htn : ((i : Int) + 1).toNat = i + 1 := by omega
  have e0 : m + 1 - 1 = m := rfl
  have HA : Hid (∀ ty A k sc, k = m + 1 - (i + 1) → (D = [] ∨ A = (⟨g, (i + 1) * 2, none⟩ : Addr)) → (Builtin.append_ #[78, 78] ty #[.slice (some ⟨g, 0, none⟩) i c,   .slice (some A) k sc]).run Try.prog w.drew = .ok (.slice (some ⟨g, 0, none⟩) m c) (w.drew.setCells g (i * 2) D)) := Lib.hid fun ty A k sc hk hA => by
    subst hk
    have e3 : i + (m + 1 - (i + 1)) = m := by omega
    have hsrc : ∀ j v, D[j]? = some v → w.drew.cell? (A.add j) = some v := by
      rcases hA with h | h
      · subst h
        intro j v hj
        simp at hj
      · rw [h]
        exact blk_cells (w := w.drew) hg hD hDl
    have := run_append_blk (P := Try.prog) elem_ents w.drew ty (g := g) (i := i) (c := c) (m := m + 1 - (i + 1)) (sCap := sc) (a := A) (cs := D) hg (by omega) hsrc (by omega) (by rw [hDl, hs]; omega) hD1
    rw [e3] at this
    exact this
  obtain ⟨it, z, hi, hz, hisz, hiby, hzc⟩ := elem_ents.info
  have HC : Hid (∃ vs : List Value, vs.length = 1 * 2 ∧ ∀ ty sc, (Builtin.clear_ #[78] ty #[.slice (some ⟨g, m * 2, none⟩) 1 sc]).run Try.prog (w.drew.setCells g (i * 2) D) = .ok (.tuple #[]) ((w.drew.setCells g (i * 2) D).setCells g (m * 2) vs)) := Lib.hid (by
    have hz0 : (Try.prog.info? 81).bind (·.zero) = some (.agg #[.slice none 0 0, .int .i64 0]) := by kernel_rfl
    obtain ⟨vs, h1, h2⟩ := run_clear_blk (P := Try.prog) elem_ents hz0 (by intro v hv; simp [Value.cells] at hv; (try rcases hv with rfl | rfl) <;> (try subst hv) <;> rfl) (w.drew.setCells g (i * 2) D) 0 (g := g) (o := m * 2) (n := 1) (c := 0) (heap_setCells_eq D _ w.drew cur hg) (by rw [putL_size, hs]; omega)
    exact ⟨vs, h1, fun ty sc => h2⟩)
  obtain ⟨vs, hvs, hcl⟩ := HC.out
  have HCL := Lib.hid hcl
  have HD0 : Hid (c = i + 1 → D = []) := Lib.hid fun h => List.eq_nil_of_length_eq_zero (by
    omega)
  have HV := Lib.hid hvs
  clear HC hcl hvs hg hs hD hDl hD1 hi hz hisz hiby hzc hm
  rcases Decidable.em (c = i + 1) with h6 | h6
  · have HD := Lib.hid (HD0.out h6)
    clear HD0
    subst h6
    have h7 : m = i := by omega
    subst h7
    go_enter Try.func75, Try.ntmps75
    go_wp2_with fail
    go_still_tail 6, (by kernel_rfl)
    change wpList _ _ _ _ _ w.drew
    refine wpList_app (R := fun v' w' => v' = _ ∧ w' = _) rfl (.tmp 22) (.tmp 25) _ _ rfl rfl rfl ⟨_, _, HA.out _ _ _ _ (by omega) (.inl HD.out), rfl, rfl⟩ ?_
    rintro _ _ ⟨rfl, rfl⟩
    go_wp2_with fail
    rw [HCL.out]
    simp only [Result.andThen]
    rw [Oper.upon_value]
    go_wp2_with fail
    go_ret
    exact ⟨vs, HV.out, rfl, rfl⟩
  · go_enter Try.func75, Try.ntmps75
    go_wp2_with fail
    go_still_tail 6, (by kernel_rfl)
    change wpList _ _ _ _ _ w.drew
    refine wpList_app (R := fun v' w' => v' = _ ∧ w' = _) rfl (.tmp 22) (.tmp 25) _ _ rfl rfl rfl ⟨_, _, HA.out _ _ _ _ (by omega) (.inr rfl), rfl, rfl⟩ ?_
    rintro _ _ ⟨rfl, rfl⟩
    go_wp2_with fail
    rw [HCL.out]
    simp only [Result.andThen]
    rw [Oper.upon_value]
    go_wp2_with fail
    go_ret
    exact ⟨vs, HV.out, rfl, rfl⟩

/-- One element is taken out. -/
theorem delEnt (A : Option Addr) (c : Nat) (xs : List Ent) (i : Nat) (w : World) (hown : Own 2 Ent.cs 81 0 w (.slice A xs.length c) xs) (hi : i < xs.length) (hl : xs.length ≤ 1000) :
    Calls Try.prog 75 #[.slice A xs.length c, .int .i64 i, .int .i64 ((i : Int) + 1)] w fun e w' => ∃ v', e = .returned v' ∧ Own 2 Ent.cs 81 0 w' v' (xs.take i ++ xs.drop (i + 1)) ∧ Ext w (.slice A xs.length c) w' v' := by
  obtain ⟨g, c', cur, hv, _, hg, hcl, hcm, hs, ht⟩ := hown.open_ (by omega)
  injection hv with h1 _ h2
  subst h1 h2
  have hm := tk_mid entLay ht hi
  have hDl : ((xs.drop (i + 1)).flatMap Ent.cs).length = (xs.length - (i + 1)) * 2 := by rw [flat_len entLay, List.length_drop]
  refine (delEnt_in g xs.length c i w hg hs hi hcl hcm hm.2 hDl (flat_one entLay _) hl).mono ?_
  rintro e w' ⟨vs, h1, rfl, rfl⟩
  exact ⟨_, rfl, own_del entLay hg hcl hcm hs ht hi h1 rfl⟩

set_option maxRecDepth 100000 in
theorem cloneEnt (A : Option Addr) (n c : Nat) (xs : List Ent) (w : World) (S : Nat → Prop) (hx : Elems 2 Ent.cs w S A xs) (hS : ∀ k, S k → k < w.heap.size) (hn : n = xs.length) (hs : xs.length ≤ 100000) :
    Calls Try.prog 66 #[.slice A n c] w fun e w' => ∃ v, e = .returned v ∧ Own 2 Ent.cs 81 w.heap.size w' v xs ∧ Below w.heap.size w w' := by
  have hnil := fun W => Lib.run_eql_slice_nil (P := Try.prog) W 78 81 A n c 0 0 Try.underlying78
  cases A with
  | none =>
    have h0 : xs = [] := by
      rcases Nat.eq_zero_or_pos xs.length with h | h
      · exact List.eq_nil_of_length_eq_zero h
      · obtain ⟨_, _, h', _⟩ := hx h; cases h'
    subst h0
    simp only [Option.isNone_none, List.length_nil] at hnil hn
    subst hn
    go_enter Try.func66, Try.ntmps66
    go_wp2_with fail
    go_ret
    exact ⟨_, rfl, Own.nil _, Below.refl _ _⟩
  | some a =>
    simp only [Option.isNone_some] at hnil
    have HX := Lib.hid (hx.keep (w' := w.alloc (.cells #[] 81)) fun k hk => Below.heap_alloc _ _ _ (hS k hk))
    have hB : w.heap.size ≤ (w.alloc (.cells #[] 81)).heap.size := by simp
    have H1 : Hid ((([] : List Ent).length + xs.length) * 32 ≤ 140737488355328) := Lib.hid (by simp; omega)
    have H2 : Hid (([] : List Ent).length + xs.length ≤ maxLen) := Lib.hid (by unfold maxLen; simp; omega)
    have HN := Lib.hid hn
    clear hx hs hn
    go_enter Try.func66, Try.ntmps66
    go_wp2_with (at_builtin; refine wpList_app rfl (.tmp 5) (.tmp 6) _ _ rfl rfl rfl (run_pushs elem_ents entLay _ (w.alloc (.cells #[] 81)) _ ([] : List Ent) (Own.lit0 w) HX.out HN.out H1.out H2.out hB) ?_; rintro v1 w1 ⟨ho1, hx1⟩)
    go_ret
    exact ⟨_, rfl, by simpa using ho1, ((Below.refl _ _).alloc (Nat.le_refl _) _).trans (hx1.below (base := w.heap.size) (by simp) (fun g hg => Nat.le_of_eq (Option.some.inj hg)))⟩

set_option maxRecDepth 100000 in
set_option maxHeartbeats 2000000 in
theorem delNid_in (g n c i : Nat) (w : World) {cur : Array Value} {D : List Value} (hg : w.heap[g]? = some (.cells cur 82 (0, 0))) (hs : cur.size = c) (hin : i < n) (hnc : n ≤ c) (hcm : c ≤ 9223372036854775807)
    (hD : (cur.toList.drop ((i + 1))).take ((n - (i + 1))) = D) (hDl : D.length = (n - (i + 1))) (hD1 : ∀ v ∈ D, v.oneCell' = true) (hl : n ≤ 1000) :
    Calls Try.prog 99 #[.slice (some ⟨g, 0, none⟩) n c, .int .i64 i, .int .i64 ((i : Int) + 1)] w fun e w' => ∃ vs : List Value, vs.length = 1 ∧ e = .returned (.slice (some ⟨g, 0, none⟩) (n - 1) c) ∧ w' = (w.drew.setCells g (i) D).setCells g ((n - 1)) vs := by
  obtain ⟨m, hm⟩ : ∃ m, m = n - 1 := ⟨_, rfl⟩
  obtain rfl : n = m + 1 := by omega
  have h2 : ¬ (c = i) := by omega
  have h3 : ¬ ((i : Int) = (i : Int) + 1) := by omega
  have h5 : ¬ (c = m) := by omega
  have hb1 : (0 : Int) ≤ (i : Int) + 1 := by omega
  have hb2 : (i : Int) + 1 ≤ (m : Int) + 1 := by omega
  have hb3 : (i : Int) ≤ (m : Int) + 1 := by omega
  have hb4 : (m : Int) + 1 ≤ (c : Int) := by omega
  have hb5 : (i : Int) ≤ (i : Int) + 1 := by omega
  have hb6 : (i : Int) ≤ (c : Int) := by omega
  have htn : ((i : Int) + 1).toNat = i + 1 := by omega
  have e0 : m + 1 - 1 = m := rfl
  have HA : Hid (∀ ty A k sc, k = m + 1 - (i + 1) → (D = [] ∨ A = (⟨g, (i + 1), none⟩ : Addr)) → (Builtin.append_ #[83, 83] ty #[.slice (some ⟨g, 0, none⟩) i c,   .slice (some A) k sc]).run Try.prog w.drew = .ok (.slice (some ⟨g, 0, none⟩) m c) (w.drew.setCells g (i) D)) := Lib.hid fun ty A k sc hk hA => by
    subst hk
    have e3 : i + (m + 1 - (i + 1)) = m := by omega
    have hsrc : ∀ j v, D[j]? = some v → w.drew.cell? (A.add j) = some v := by
      rcases hA with h | h
      · subst h
        intro j v hj
        simp at hj
      · rw [h]
        exact blk_cells (w := w.drew) hg hD hDl
    have := run_append_blk (P := Try.prog) elem_nids w.drew ty (g := g) (i := i) (c := c) (m := m + 1 - (i + 1)) (sCap := sc) (a := A) (cs := D) hg (by omega) hsrc (by omega) (by rw [hDl, hs]; omega) hD1
    rw [e3, Nat.mul_one] at this
    exact this
  obtain ⟨it, z, hi, hz, hisz, hiby, hzc⟩ := elem_nids.info
  have HC : Hid (∃ vs : List Value, vs.length = 1 ∧ ∀ ty sc, (Builtin.clear_ #[83] ty #[.slice (some ⟨g, m, none⟩) 1 sc]).run Try.prog (w.drew.setCells g (i) D) = .ok (.tuple #[]) ((w.drew.setCells g (i) D).setCells g (m) vs)) := Lib.hid (by
    have hz0 : (Try.prog.info? 82).bind (·.zero) = some (.pointer none) := by kernel_rfl
    obtain ⟨vs, h1, h2⟩ := run_clear_blk (P := Try.prog) elem_nids hz0 (by intro v hv; simp [Value.cells] at hv; (try rcases hv with rfl | rfl) <;> (try subst hv) <;> rfl) (w.drew.setCells g (i) D) 0 (g := g) (o := m) (n := 1) (c := 0) (heap_setCells_eq D _ w.drew cur hg) (by rw [putL_size, hs]; omega)
    exact ⟨vs, h1, fun ty sc => h2⟩)
  obtain ⟨vs, hvs, hcl⟩ := HC.out
  have HCL := Lib.hid hcl
  have HD0 : Hid (c = i + 1 → D = []) := Lib.hid fun h => List.eq_nil_of_length_eq_zero (by
    omega)
  have HV := Lib.hid hvs
  clear HC hcl hvs hg hs hD hDl hD1 hi hz hisz hiby hzc hm
  rcases Decidable.em (c = i + 1) with h6 | h6
  · have HD := Lib.hid (HD0.out h6)
    clear HD0
    subst h6
    have h7 : m = i := by omega
    subst h7
    go_enter Try.func99, Try.ntmps99
    go_wp2_with fail
    go_still_tail 6, (by kernel_rfl)
    change wpList _ _ _ _ _ w.drew
    refine wpList_app (R := fun v' w' => v' = _ ∧ w' = _) rfl (.tmp 22) (.tmp 25) _ _ rfl rfl rfl ⟨_, _, HA.out _ _ _ _ (by omega) (.inl HD.out), rfl, rfl⟩ ?_
    rintro _ _ ⟨rfl, rfl⟩
    go_wp2_with fail
    rw [HCL.out]
    simp only [Result.andThen]
    rw [Oper.upon_value]
    go_wp2_with fail
    go_ret
    exact ⟨vs, HV.out, rfl, rfl⟩
  · go_enter Try.func99, Try.ntmps99
    go_wp2_with fail
    go_still_tail 6, (by kernel_rfl)
    change wpList _ _ _ _ _ w.drew
    refine wpList_app (R := fun v' w' => v' = _ ∧ w' = _) rfl (.tmp 22) (.tmp 25) _ _ rfl rfl rfl ⟨_, _, HA.out _ _ _ _ (by omega) (.inr rfl), rfl, rfl⟩ ?_
    rintro _ _ ⟨rfl, rfl⟩
    go_wp2_with fail
    rw [HCL.out]
    simp only [Result.andThen]
    rw [Oper.upon_value]
    go_wp2_with fail
    go_ret
    exact ⟨vs, HV.out, rfl, rfl⟩

/-- One element is taken out. -/
theorem delNid (A : Option Addr) (c : Nat) (xs : List Nid) (i : Nat) (w : World) (hown : Own 1 Nid.cs 82 0 w (.slice A xs.length c) xs) (hi : i < xs.length) (hl : xs.length ≤ 1000) :
    Calls Try.prog 99 #[.slice A xs.length c, .int .i64 i, .int .i64 ((i : Int) + 1)] w fun e w' => ∃ v', e = .returned v' ∧ Own 1 Nid.cs 82 0 w' v' (xs.take i ++ xs.drop (i + 1)) ∧ Ext w (.slice A xs.length c) w' v' := by
  obtain ⟨g, c', cur, hv, _, hg, hcl, hcm, hs, ht⟩ := hown.open_ (by omega)
  injection hv with h1 _ h2
  subst h1 h2
  have hm := tk_mid nidLay ht hi
  have hDl : ((xs.drop (i + 1)).flatMap Nid.cs).length = (xs.length - (i + 1)) * 1 := by rw [flat_len nidLay, List.length_drop]
  simp only [Nat.mul_one] at hs hm hDl
  refine (delNid_in g xs.length c i w hg hs hi hcl hcm hm.2 hDl (flat_one nidLay _) hl).mono ?_
  rintro e w' ⟨vs, h1, rfl, rfl⟩
  exact ⟨_, rfl, (by have h := own_del nidLay hg hcl hcm (by rw [Nat.mul_one]; exact hs) ht hi h1 rfl; simp only [Nat.mul_one] at h; exact h)⟩

set_option maxRecDepth 100000 in
theorem cloneNid (A : Option Addr) (n c : Nat) (xs : List Nid) (w : World) (S : Nat → Prop) (hx : Elems 1 Nid.cs w S A xs) (hS : ∀ k, S k → k < w.heap.size) (hn : n = xs.length) (hs : xs.length ≤ 100000) :
    Calls Try.prog 67 #[.slice A n c] w fun e w' => ∃ v, e = .returned v ∧ Own 1 Nid.cs 82 w.heap.size w' v xs ∧ Below w.heap.size w w' := by
  have hnil := fun W => Lib.run_eql_slice_nil (P := Try.prog) W 83 82 A n c 0 0 Try.underlying83
  cases A with
  | none =>
    have h0 : xs = [] := by
      rcases Nat.eq_zero_or_pos xs.length with h | h
      · exact List.eq_nil_of_length_eq_zero h
      · obtain ⟨_, _, h', _⟩ := hx h; cases h'
    subst h0
    simp only [Option.isNone_none, List.length_nil] at hnil hn
    subst hn
    go_enter Try.func67, Try.ntmps67
    go_wp2_with fail
    go_ret
    exact ⟨_, rfl, Own.nil _, Below.refl _ _⟩
  | some a =>
    simp only [Option.isNone_some] at hnil
    have HX := Lib.hid (hx.keep (w' := w.alloc (.cells #[] 82)) fun k hk => Below.heap_alloc _ _ _ (hS k hk))
    have hB : w.heap.size ≤ (w.alloc (.cells #[] 82)).heap.size := by simp
    have H1 : Hid ((([] : List Nid).length + xs.length) * 8 ≤ 140737488355328) := Lib.hid (by simp; omega)
    have H2 : Hid (([] : List Nid).length + xs.length ≤ maxLen) := Lib.hid (by unfold maxLen; simp; omega)
    have HN := Lib.hid hn
    clear hx hs hn
    go_enter Try.func67, Try.ntmps67
    go_wp2_with (at_builtin; refine wpList_app rfl (.tmp 5) (.tmp 6) _ _ rfl rfl rfl (run_pushs elem_nids nidLay _ (w.alloc (.cells #[] 82)) _ ([] : List Nid) (Own.lit0 w) HX.out HN.out H1.out H2.out hB) ?_; rintro v1 w1 ⟨ho1, hx1⟩)
    go_ret
    exact ⟨_, rfl, by simpa using ho1, ((Below.refl _ _).alloc (Nat.le_refl _) _).trans (hx1.below (base := w.heap.size) (by simp) (fun g hg => Nat.le_of_eq (Option.some.inj hg)))⟩

set_option maxRecDepth 100000 in
set_option maxHeartbeats 2000000 in
theorem delKey_in (g n c i : Nat) (w : World) {cur : Array Value} {D : List Value} (hg : w.heap[g]? = some (.cells cur 35 (0, 0))) (hs : cur.size = c) (hin : i < n) (hnc : n ≤ c) (hcm : c ≤ 9223372036854775807)
    (hD : (cur.toList.drop ((i + 1))).take ((n - (i + 1))) = D) (hDl : D.length = (n - (i + 1))) (hD1 : ∀ v ∈ D, v.oneCell' = true) (hl : n ≤ 1000) :
    Calls Try.prog 100 #[.slice (some ⟨g, 0, none⟩) n c, .int .i64 i, .int .i64 ((i : Int) + 1)] w fun e w' => ∃ vs : List Value, vs.length = 1 ∧ e = .returned (.slice (some ⟨g, 0, none⟩) (n - 1) c) ∧ w' = (w.drew.setCells g (i) D).setCells g ((n - 1)) vs := by
  obtain ⟨m, hm⟩ : ∃ m, m = n - 1 := ⟨_, rfl⟩
  obtain rfl : n = m + 1 := by omega
  have h2 : ¬ (c = i) := by omega
  have h3 : ¬ ((i : Int) = (i : Int) + 1) := by omega
  have h5 : ¬ (c = m) := by omega
  have hb1 : (0 : Int) ≤ (i : Int) + 1 := by omega
  have hb2 : (i : Int) + 1 ≤ (m : Int) + 1 := by omega
  have hb3 : (i : Int) ≤ (m : Int) + 1 := by omega
  have hb4 : (m : Int) + 1 ≤ (c : Int) := by omega
  have hb5 : (i : Int) ≤ (i : Int) + 1 := by omega
  have hb6 : (i : Int) ≤ (c : Int) := by omega
  have htn : ((i : Int) + 1).toNat = i + 1 := by omega
  have e0 : m + 1 - 1 = m := rfl
  have HA : Hid (∀ ty A k sc, k = m + 1 - (i + 1) → (D = [] ∨ A = (⟨g, (i + 1), none⟩ : Addr)) → (Builtin.append_ #[31, 31] ty #[.slice (some ⟨g, 0, none⟩) i c,   .slice (some A) k sc]).run Try.prog w.drew = .ok (.slice (some ⟨g, 0, none⟩) m c) (w.drew.setCells g (i) D)) := Lib.hid fun ty A k sc hk hA => by
    subst hk
    have e3 : i + (m + 1 - (i + 1)) = m := by omega
    have hsrc : ∀ j v, D[j]? = some v → w.drew.cell? (A.add j) = some v := by
      rcases hA with h | h
      · subst h
        intro j v hj
        simp at hj
      · rw [h]
        exact blk_cells (w := w.drew) hg hD hDl
    have := run_append_blk (P := Try.prog) elem_keys w.drew ty (g := g) (i := i) (c := c) (m := m + 1 - (i + 1)) (sCap := sc) (a := A) (cs := D) hg (by omega) hsrc (by omega) (by rw [hDl, hs]; omega) hD1
    rw [e3, Nat.mul_one] at this
    exact this
  obtain ⟨it, z, hi, hz, hisz, hiby, hzc⟩ := elem_keys.info
  have HC : Hid (∃ vs : List Value, vs.length = 1 ∧ ∀ ty sc, (Builtin.clear_ #[31] ty #[.slice (some ⟨g, m, none⟩) 1 sc]).run Try.prog (w.drew.setCells g (i) D) = .ok (.tuple #[]) ((w.drew.setCells g (i) D).setCells g (m) vs)) := Lib.hid (by
    have hz0 : (Try.prog.info? 35).bind (·.zero) = some (.slice none 0 0) := by kernel_rfl
    obtain ⟨vs, h1, h2⟩ := run_clear_blk (P := Try.prog) elem_keys hz0 (by intro v hv; simp [Value.cells] at hv; (try rcases hv with rfl | rfl) <;> (try subst hv) <;> rfl) (w.drew.setCells g (i) D) 0 (g := g) (o := m) (n := 1) (c := 0) (heap_setCells_eq D _ w.drew cur hg) (by rw [putL_size, hs]; omega)
    exact ⟨vs, h1, fun ty sc => h2⟩)
  obtain ⟨vs, hvs, hcl⟩ := HC.out
  have HCL := Lib.hid hcl
  have HD0 : Hid (c = i + 1 → D = []) := Lib.hid fun h => List.eq_nil_of_length_eq_zero (by
    omega)
  have HV := Lib.hid hvs
  clear HC hcl hvs hg hs hD hDl hD1 hi hz hisz hiby hzc hm
  rcases Decidable.em (c = i + 1) with h6 | h6
  · have HD := Lib.hid (HD0.out h6)
    clear HD0
    subst h6
    have h7 : m = i := by omega
    subst h7
    go_enter Try.func100, Try.ntmps100
    go_wp2_with fail
    go_still_tail 6, (by kernel_rfl)
    change wpList _ _ _ _ _ w.drew
    refine wpList_app (R := fun v' w' => v' = _ ∧ w' = _) rfl (.tmp 22) (.tmp 25) _ _ rfl rfl rfl ⟨_, _, HA.out _ _ _ _ (by omega) (.inl HD.out), rfl, rfl⟩ ?_
    rintro _ _ ⟨rfl, rfl⟩
    go_wp2_with fail
    rw [HCL.out]
    simp only [Result.andThen]
    rw [Oper.upon_value]
    go_wp2_with fail
    go_ret
    exact ⟨vs, HV.out, rfl, rfl⟩
  · go_enter Try.func100, Try.ntmps100
    go_wp2_with fail
    go_still_tail 6, (by kernel_rfl)
    change wpList _ _ _ _ _ w.drew
    refine wpList_app (R := fun v' w' => v' = _ ∧ w' = _) rfl (.tmp 22) (.tmp 25) _ _ rfl rfl rfl ⟨_, _, HA.out _ _ _ _ (by omega) (.inr rfl), rfl, rfl⟩ ?_
    rintro _ _ ⟨rfl, rfl⟩
    go_wp2_with fail
    rw [HCL.out]
    simp only [Result.andThen]
    rw [Oper.upon_value]
    go_wp2_with fail
    go_ret
    exact ⟨vs, HV.out, rfl, rfl⟩

/-- One element is taken out. -/
theorem delKey (A : Option Addr) (c : Nat) (xs : List Key) (i : Nat) (w : World) (hown : Own 1 Key.cs 35 0 w (.slice A xs.length c) xs) (hi : i < xs.length) (hl : xs.length ≤ 1000) :
    Calls Try.prog 100 #[.slice A xs.length c, .int .i64 i, .int .i64 ((i : Int) + 1)] w fun e w' => ∃ v', e = .returned v' ∧ Own 1 Key.cs 35 0 w' v' (xs.take i ++ xs.drop (i + 1)) ∧ Ext w (.slice A xs.length c) w' v' := by
  obtain ⟨g, c', cur, hv, _, hg, hcl, hcm, hs, ht⟩ := hown.open_ (by omega)
  injection hv with h1 _ h2
  subst h1 h2
  have hm := tk_mid keyLay ht hi
  have hDl : ((xs.drop (i + 1)).flatMap Key.cs).length = (xs.length - (i + 1)) * 1 := by rw [flat_len keyLay, List.length_drop]
  simp only [Nat.mul_one] at hs hm hDl
  refine (delKey_in g xs.length c i w hg hs hi hcl hcm hm.2 hDl (flat_one keyLay _) hl).mono ?_
  rintro e w' ⟨vs, h1, rfl, rfl⟩
  exact ⟨_, rfl, (by have h := own_del keyLay hg hcl hcm (by rw [Nat.mul_one]; exact hs) ht hi h1 rfl; simp only [Nat.mul_one] at h; exact h)⟩

set_option maxRecDepth 100000 in
theorem cloneKey (A : Option Addr) (n c : Nat) (xs : List Key) (w : World) (S : Nat → Prop) (hx : Elems 1 Key.cs w S A xs) (hS : ∀ k, S k → k < w.heap.size) (hn : n = xs.length) (hs : xs.length ≤ 100000) :
    Calls Try.prog 68 #[.slice A n c] w fun e w' => ∃ v, e = .returned v ∧ Own 1 Key.cs 35 w.heap.size w' v xs ∧ Below w.heap.size w w' := by
  have hnil := fun W => Lib.run_eql_slice_nil (P := Try.prog) W 31 35 A n c 0 0 Try.underlying31
  cases A with
  | none =>
    have h0 : xs = [] := by
      rcases Nat.eq_zero_or_pos xs.length with h | h
      · exact List.eq_nil_of_length_eq_zero h
      · obtain ⟨_, _, h', _⟩ := hx h; cases h'
    subst h0
    simp only [Option.isNone_none, List.length_nil] at hnil hn
    subst hn
    go_enter Try.func68, Try.ntmps68
    go_wp2_with fail
    go_ret
    exact ⟨_, rfl, Own.nil _, Below.refl _ _⟩
  | some a =>
    simp only [Option.isNone_some] at hnil
    have HX := Lib.hid (hx.keep (w' := w.alloc (.cells #[] 35)) fun k hk => Below.heap_alloc _ _ _ (hS k hk))
    have hB : w.heap.size ≤ (w.alloc (.cells #[] 35)).heap.size := by simp
    have H1 : Hid ((([] : List Key).length + xs.length) * 24 ≤ 140737488355328) := Lib.hid (by simp; omega)
    have H2 : Hid (([] : List Key).length + xs.length ≤ maxLen) := Lib.hid (by unfold maxLen; simp; omega)
    have HN := Lib.hid hn
    clear hx hs hn
    go_enter Try.func68, Try.ntmps68
    go_wp2_with (at_builtin; refine wpList_app rfl (.tmp 5) (.tmp 6) _ _ rfl rfl rfl (run_pushs elem_keys keyLay _ (w.alloc (.cells #[] 35)) _ ([] : List Key) (Own.lit0 w) HX.out HN.out H1.out H2.out hB) ?_; rintro v1 w1 ⟨ho1, hx1⟩)
    go_ret
    exact ⟨_, rfl, by simpa using ho1, ((Below.refl _ _).alloc (Nat.le_refl _) _).trans (hx1.below (base := w.heap.size) (by simp) (fun g hg => Nat.le_of_eq (Option.some.inj hg)))⟩

end Go.Proofs.Ytjdcnkbkbcfhfaa

namespace Go.Proofs.Ytjdcnkbkbcfhfaa
open Go.RowKit

/-- Whose a block is. -/
inductive Whose where
  | old | row | free | top | node
  | fld (i : Nat) (a : Nat)
/-- A block that the tree's functions may turn. -/
def Whose.mine : Whose → Prop
  | .node => True
  | .fld _ _ => True
  | _ => False
/-- What a node holds. -/
structure NC where
  es : List Ent
  ks : List Key
  cs : List Nat
abbrev Own' := Nat → Whose
abbrev Nodes := Nat → Option NC

/-- The field i of a node. -/
def Fld (i : Nat) (n : NC) (w : World) (v : Value) : Prop :=
  match i with
  | 0 => Own 2 Ent.cs 81 0 w v n.es
  | 1 => Own 1 Key.cs 35 0 w v n.ks
  | _ => Own 1 Nid.cs 82 0 w v n.cs
theorem Own.of_block {α : Type} {sz : Nat} {cs : α → List Value} {e : TypeId} {base : Nat} {w w' : World} {v : Value} {xs : List α} (h : Own sz cs e base w v xs) (hk : ∀ g, v.ownBlock = some g → w'.heap[g]? = w.heap[g]?) : Own sz cs e base w' v xs := by
  refine ⟨h.1, ?_⟩
  rcases h.2 with hn | ⟨g, cap, cur, rfl, hb, hgg, rest⟩
  · exact .inl hn
  · exact .inr ⟨g, cap, cur, rfl, hb, (hk g rfl).trans hgg, rest⟩
theorem Fld.of_block {i : Nat} {n : NC} {w w' : World} {v : Value} (h : Fld i n w v) (hk : ∀ g, v.ownBlock = some g → w'.heap[g]? = w.heap[g]?) : Fld i n w' v := by
  rcases i with _ | _ | i <;> exact Own.of_block h hk
theorem Fld.lt {i : Nat} {n : NC} {w : World} {v : Value} (h : Fld i n w v) {g : Nat} (hg : v.ownBlock = some g) : g < w.heap.size := by
  rcases i with _ | _ | i <;> exact (Own.lt h g hg).2
theorem KOk.of {K K' : Nat → Prop} {w w' : World} {k : Key} (h : KOk K w k) (hk : ∀ i, K i → w'.heap[i]? = w.heap[i]? ∧ K' i) : KOk K' w' k := (h.keep fun i hi => (hk i hi).1).more fun i hi => (hk i hi).2

/-- The node a, its fields' values V. -/
structure NodeAt (w : World) (O : Own') (a : Nat) (n : NC) (V : Nat → Value) : Prop where
  blk : w.heap[a]? = some (.cells #[V 0, V 1, V 2] 85 (0, 0))
  own : O a = .node
  fld : ∀ i, i < 3 → Fld i n w (V i)
  whose : ∀ i, i < 3 → ∀ g, (V i).ownBlock = some g → O g = .fld i a
  rowe : ∀ e ∈ n.es, KOk (fun k => O k = .row) w e.key
  rowk : ∀ k ∈ n.ks, KOk (fun k => O k = .row) w k

theorem NodeAt.keep {w w' : World} {O O' : Own'} {a : Nat} {n : NC} {V : Nat → Value} (h : NodeAt w O a n V)
    (hk : ∀ k, (k = a ∨ (∃ i, O k = .fld i a) ∨ O k = .row) → w'.heap[k]? = w.heap[k]? ∧ O' k = O k) : NodeAt w' O' a n V := by
  refine ⟨(hk a (.inl rfl)).1.trans h.blk, (hk a (.inl rfl)).2.trans h.own, fun i hi => ?_, fun i hi g hg => ?_, fun e he => ?_, fun k hk' => ?_⟩
  · exact (h.fld i hi).of_block fun g hg => (hk g (.inr (.inl ⟨i, h.whose i hi g hg⟩))).1
  · have := h.whose i hi g hg
    exact (hk g (.inr (.inl ⟨i, this⟩))).2.trans this
  · exact (h.rowe e he).of fun i hi => ⟨(hk i (.inr (.inr hi))).1, (hk i (.inr (.inr hi))).2.trans hi⟩
  · exact (h.rowk k hk').of fun i hi => ⟨(hk i (.inr (.inr hi))).1, (hk i (.inr (.inr hi))).2.trans hi⟩

/-- All nodes. -/
structure Store (w : World) (M : Nodes) (O : Own') : Prop where
  at_ : ∀ a n, M a = some n → ∃ V, NodeAt w O a n V
  free : ∀ k, w.heap.size ≤ k → O k = .free
theorem Store.lt {w : World} {M : Nodes} {O : Own'} (h : Store w M O) {a : Nat} {n : NC} (ha : M a = some n) : a < w.heap.size := by
  obtain ⟨V, hV⟩ := h.at_ a n ha
  exact (Array.getElem?_eq_some_iff.1 hV.blk).1
theorem Store.lt' {w : World} {M : Nodes} {O : Own'} (h : Store w M O) {k : Nat} (hk : O k ≠ .free) : k < w.heap.size := Nat.lt_of_not_le fun h' => hk (h.free k h')

/-- From the start (w0, O0) to here: what is not the tree's own stays. -/
structure St (w0 : World) (O0 : Own') (w : World) (M : Nodes) (O : Own') : Prop where
  store : Store w M O
  os : w.os = w0.os
  tape : w.tape = w0.tape
  output : w.output = w0.output
  size : w0.heap.size ≤ w.heap.size
  own : ∀ k, k < w0.heap.size → O k = O0 k
  keep : ∀ k, k < w0.heap.size → ¬ (O0 k).mine → w.heap[k]? = w0.heap[k]?

section
variable {w0 w w' : World} {O0 O O' : Own'} {M M' : Nodes}
theorem St.refl (h : Store w M O) : St w O w M O := ⟨h, rfl, rfl, rfl, Nat.le_refl _, fun _ _ => rfl, fun _ _ _ => rfl⟩
theorem St.trans {w2 : World} {O2 : Own'} {M2 : Nodes} (h : St w0 O0 w M O) (k : St w O w2 M2 O2) : St w0 O0 w2 M2 O2 :=
  ⟨k.store, k.os.trans h.os, k.tape.trans h.tape, k.output.trans h.output, Nat.le_trans h.size k.size, fun i hi => (k.own i (Nat.lt_of_lt_of_le hi h.size)).trans (h.own i hi),
    fun i hi hm => (k.keep i (Nat.lt_of_lt_of_le hi h.size) (by rw [h.own i hi]; exact hm)).trans (h.keep i hi hm)⟩
theorem Store.below (h : Store w M O) (hb : Below w.heap.size w w') : Store w' M O := by
  refine ⟨fun a n ha => ?_, fun k hk => h.free k (Nat.le_trans hb.size hk)⟩
  obtain ⟨V, hV⟩ := h.at_ a n ha
  refine ⟨V, hV.keep fun k hk => ⟨hb.block k ?_, rfl⟩⟩
  apply h.lt'
  rcases hk with rfl | ⟨i, hi⟩ | hk
  · rw [hV.own]; simp
  · rw [hi]; simp
  · rw [hk]; simp
theorem St.below (h : St w0 O0 w M O) (hb : Below w.heap.size w w') : St w0 O0 w' M O :=
  ⟨h.store.below hb, hb.os.trans h.os, hb.tape.trans h.tape, hb.output.trans h.output, Nat.le_trans h.size hb.size, h.own, fun k hk hm => (hb.block k (Nat.lt_of_lt_of_le hk h.size)).trans (h.keep k hk hm)⟩
theorem St.drew (h : St w0 O0 w M O) : St w0 O0 w.drew M O := h.below (Below.refl _ _).drew
theorem St.drewN (h : St w0 O0 w M O) (n : Nat) : St w0 O0 (w.drewN n) M O := h.below (below_drewN (Below.refl _ _) n)
theorem St.alloc (h : St w0 O0 w M O) (o : Obj) : St w0 O0 (w.alloc o) M O := h.below ((Below.refl _ _).alloc (Nat.le_refl _) o)

theorem cells_set {V : Nat → Value} {i : Nat} (hi : i < 3) (v : Value) : (#[V 0, V 1, V 2] : Array Value).setIfInBounds i v = #[if i = 0 then v else V 0, if i = 1 then v else V 1, if i = 2 then v else V 2] := by
  rcases i with _ | _ | _ | i
  · rfl
  · rfl
  · rfl
  · omega
theorem heap_setCell_at {g i : Nat} {cur : Array Value} {e : TypeId} (h : w.heap[g]? = some (.cells cur e (0, 0))) (v : Value) : (w.setCell ⟨g, i, none⟩ v).heap[g]? = some (.cells (cur.setIfInBounds i v) e (0, 0)) := by
  unfold World.setCell
  simp only
  rw [Array.getElem?_modify, if_pos rfl, h]
  simp
theorem heap_setCell_off {g i k : Nat} (h : k ≠ g) (v : Value) : (w.setCell ⟨g, i, none⟩ v).heap[k]? = w.heap[k]? := Below.heap_setCell w ⟨g, i, none⟩ v k h
theorem setCell_size (p : Addr) (v : Value) : (w.setCell p v).heap.size = w.heap.size := by simp [World.setCell]

def upd {β : Type} (f : Nat → β) (a : Nat) (x : β) : Nat → β := fun k => if k = a then x else f k
theorem upd_same {β : Type} (f : Nat → β) (a : Nat) (x : β) : upd f a x a = x := if_pos rfl
theorem upd_ne {β : Type} {f : Nat → β} {a k : Nat} {x : β} (h : k ≠ a) : upd f a x k = f k := if_neg h
/-- The block of v is now b's. -/
def ownBy (O : Own') (v : Value) (b : Whose) : Own' := fun k => if v.ownBlock = some k then b else O k
theorem ownBy_same {O : Own'} {v : Value} {b : Whose} {k : Nat} (h : v.ownBlock = some k) : ownBy O v b k = b := if_pos h
theorem ownBy_ne {O : Own'} {v : Value} {b : Whose} {k : Nat} (h : v.ownBlock ≠ some k) : ownBy O v b k = O k := if_neg h

/-- One field of a node is laid anew: its value lies where it lay or in a block that is nobody's. -/
theorem St.field (h : St w0 O0 w M O) {a : Nat} {n n' : NC} {V : Nat → Value} (ha : M a = some n) (hV : NodeAt w O a n V) {i : Nat} (hi : i < 3) {v' : Value}
    (hx : w.grownBy w' (V i).ownBlock) (hF : Fld i n' w' v') (hf : ∀ g, v'.ownBlock = some g → O g = .fld i a ∨ (O g = .free ∧ w0.heap.size ≤ g)) (hsame : ∀ j, j < 3 → j ≠ i → ∀ w v, Fld j n w v → Fld j n' w v)
    (hre : ∀ e ∈ n'.es, KOk (fun k => O k = .row) w e.key) (hrk : ∀ k ∈ n'.ks, KOk (fun k => O k = .row) w k) :
    St w0 O0 (w'.setCell ⟨a, i, none⟩ v') (upd M a (some n')) (ownBy O v' (.fld i a))
    ∧ NodeAt (w'.setCell ⟨a, i, none⟩ v') (ownBy O v' (.fld i a)) a n' (fun j => if j = i then v' else V j) := by
  have hal : a < w.heap.size := (Array.getElem?_eq_some_iff.1 hV.blk).1
  have hVi : ∀ g, (V i).ownBlock = some g → O g = .fld i a := hV.whose i hi
  -- a block that is neither a nor of the field i is as it was
  have hkeep : ∀ k, k < w.heap.size → k ≠ a → O k ≠ .fld i a → (w'.setCell ⟨a, i, none⟩ v').heap[k]? = w.heap[k]? := fun k hk hka hne => by
    rw [heap_setCell_off hka]
    exact hx.block k hk fun e => hne (hVi k e.symm)
  have hO : ∀ k, O k ≠ .free → ownBy O v' (.fld i a) k = O k := fun k hk => by
    by_cases hv : v'.ownBlock = some k
    · rw [ownBy_same hv]
      rcases hf k hv with h1 | ⟨h1, _⟩
      · exact h1.symm
      · exact absurd h1 hk
    · exact ownBy_ne hv
  have hrow : ∀ k, O k = .row → (w'.setCell ⟨a, i, none⟩ v').heap[k]? = w.heap[k]? ∧ ownBy O v' (.fld i a) k = O k := fun k hk => by
    refine ⟨hkeep k (h.store.lt' (by rw [hk]; simp)) (fun e => ?_) (by rw [hk]; simp), hO k (by rw [hk]; simp)⟩
    have := hV.own
    rw [← e, hk] at this
    cases this
  have hN : NodeAt (w'.setCell ⟨a, i, none⟩ v') (ownBy O v' (.fld i a)) a n' (fun j => if j = i then v' else V j) := by
    refine ⟨?_, (hO a (by rw [hV.own]; simp)).trans hV.own, fun j hj => ?_, fun j hj g hg => ?_, fun e he => ?_, fun k hk => ?_⟩
    · have hb : w'.heap[a]? = some (.cells #[V 0, V 1, V 2] 85 (0, 0)) := (hx.block a hal fun e => by
        have h1 := hVi a e.symm
        rw [hV.own] at h1
        cases h1).trans hV.blk
      rw [heap_setCell_at hb, cells_set hi]
      rcases i with _ | _ | _ | i
      · rfl
      · rfl
      · rfl
      · omega
    · by_cases hj' : j = i
      · subst hj'
        simp only [if_true]
        refine hF.of_block fun g hg => heap_setCell_off (fun e => ?_) v'
        subst e
        have := hV.own
        rcases hf g hg with h1 | ⟨h1, _⟩ <;> (rw [h1] at this; cases this)
      · simp only [if_neg hj']
        refine (hsame j hj hj' _ _ (hV.fld j hj)).of_block fun g hg => ?_
        have h1 := hV.whose j hj g hg
        refine hkeep g ((hV.fld j hj).lt hg) (fun e => ?_) (fun e => ?_)
        · rw [e, hV.own] at h1; cases h1
        · rw [h1] at e; injection e with e; exact hj' e
    · by_cases hj' : j = i
      · subst hj'
        simp only [if_true] at hg
        exact ownBy_same hg
      · simp only [if_neg hj'] at hg
        have h1 := hV.whose j hj g hg
        exact (hO g (by rw [h1]; simp)).trans h1
    · exact (hre e he).of fun k hk => ⟨(hrow k hk).1, (hrow k hk).2.trans hk⟩
    · exact (hrk k hk).of fun k hk => ⟨(hrow k hk).1, (hrow k hk).2.trans hk⟩
  refine ⟨⟨⟨fun b nb hb => ?_, fun k hk => ?_⟩, hx.os.trans h.os, hx.tape.trans h.tape, hx.output.trans h.output, ?_, fun k hk => ?_, fun k hk hm => ?_⟩, hN⟩
  · by_cases hba : b = a
    · subst hba
      rw [upd_same] at hb
      injection hb with hb
      subst hb
      exact ⟨_, hN⟩
    · rw [upd_ne hba] at hb
      obtain ⟨Vb, hVb⟩ := h.store.at_ b nb hb
      refine ⟨Vb, hVb.keep fun k hk => ?_⟩
      rcases hk with rfl | ⟨j, hj⟩ | hk
      · exact ⟨hkeep k (h.store.lt hb) hba (by rw [hVb.own]; simp), hO k (by rw [hVb.own]; simp)⟩
      · refine ⟨hkeep k (h.store.lt' (by rw [hj]; simp)) (fun e => ?_) (fun e => ?_), hO k (by rw [hj]; simp)⟩
        · rw [e, hV.own] at hj; cases hj
        · rw [hj] at e; injection e with _ e; exact hba e
      · exact hrow k hk
  · rw [setCell_size] at hk
    rw [ownBy_ne (fun e => ?_)]
    · exact h.store.free k (Nat.le_trans hx.size hk)
    · have := hF.lt e
      omega
  · rw [setCell_size]; exact Nat.le_trans h.size hx.size
  · rw [← h.own k hk]
    by_cases hv : v'.ownBlock = some k
    · rw [ownBy_same hv]
      rcases hf k hv with h1 | ⟨_, h1⟩
      · exact h1.symm
      · omega
    · exact ownBy_ne hv
  · have h1 := h.own k hk
    rw [← h1] at hm
    refine (hkeep k (Nat.lt_of_lt_of_le hk h.size) (fun e => ?_) (fun e => ?_)).trans (h.keep k hk (by rw [← h1]; exact hm))
    · rw [e, hV.own] at hm; exact hm trivial
    · rw [e] at hm; exact hm trivial

/-- .. the value lies in a block made since. -/
theorem St.field_new (h : St w0 O0 w M O) {a : Nat} {n n' : NC} {V : Nat → Value} (ha : M a = some n) (hV : NodeAt w O a n V) {i : Nat} (hi : i < 3) {v' : Value}
    (hb : Below w.heap.size w w') (hF : Fld i n' w' v') (hf : ∀ g, v'.ownBlock = some g → w.heap.size ≤ g) (hsame : ∀ j, j < 3 → j ≠ i → ∀ w v, Fld j n w v → Fld j n' w v)
    (hre : ∀ e ∈ n'.es, KOk (fun k => O k = .row) w e.key) (hrk : ∀ k ∈ n'.ks, KOk (fun k => O k = .row) w k) :
    St w0 O0 (w'.setCell ⟨a, i, none⟩ v') (upd M a (some n')) (ownBy O v' (.fld i a))
    ∧ NodeAt (w'.setCell ⟨a, i, none⟩ v') (ownBy O v' (.fld i a)) a n' (fun j => if j = i then v' else V j) :=
  h.field ha hV hi ⟨hb.os, hb.tape, hb.output, hb.size, fun k hk _ => hb.block k hk⟩ hF (fun g hg => .inr ⟨h.store.free g (hf g hg), Nat.le_trans h.size (hf g hg)⟩) hsame hre hrk

/-- Blocks that are nobody's get an owner that is not the tree's: a row's. -/
theorem St.claim (h : St w0 O0 w M O) (hO : ∀ k, O k ≠ .free → O' k = O k) (hs : ∀ k, w.heap.size ≤ k → O' k = .free) (hb : ∀ k, k < w0.heap.size → O' k = O k) : St w0 O0 w M O' := by
  refine ⟨⟨fun a n ha => ?_, hs⟩, h.os, h.tape, h.output, h.size, fun k hk => (hb k hk).trans (h.own k hk), h.keep⟩
  obtain ⟨V, hV⟩ := h.store.at_ a n ha
  refine ⟨V, hV.keep fun k hk => ⟨rfl, hO k ?_⟩⟩
  rcases hk with rfl | ⟨i, hi⟩ | hk
  · rw [hV.own]; simp
  · rw [hi]; simp
  · rw [hk]; simp

/-- A new node: block and fields were nobody's. -/
theorem St.fresh (h : St w0 O0 w M O) {a : Nat} {n : NC} {V : Nat → Value} (hb : w.heap[a]? = some (.cells #[V 0, V 1, V 2] 85 (0, 0))) (ha : O a = .free ∧ w0.heap.size ≤ a) (hF : ∀ i, i < 3 → Fld i n w (V i))
    (hf : ∀ i, i < 3 → ∀ g, (V i).ownBlock = some g → O g = .free ∧ w0.heap.size ≤ g ∧ g ≠ a) (hd : ∀ i j g, i < 3 → j < 3 → (V i).ownBlock = some g → (V j).ownBlock = some g → i = j)
    (hre : ∀ e ∈ n.es, KOk (fun k => O k = .row) w e.key) (hrk : ∀ k ∈ n.ks, KOk (fun k => O k = .row) w k) :
    ∃ O', St w0 O0 w (upd M a (some n)) O' ∧ NodeAt w O' a n V ∧ M a = none ∧ (∀ k, O k ≠ .free → O' k = O k) ∧ (∀ k, O' k ≠ O k → k = a ∨ ∃ i, i < 3 ∧ (V i).ownBlock = some k) := by
  obtain ⟨O', hO'⟩ : ∃ O' : Own', O' = fun k => if k = a then .node else if (V 0).ownBlock = some k then .fld 0 a else if (V 1).ownBlock = some k then .fld 1 a else if (V 2).ownBlock = some k then .fld 2 a else O k := ⟨_, rfl⟩
  have hal : a < w.heap.size := (Array.getElem?_eq_some_iff.1 hb).1
  have h1 : O' a = .node := by rw [hO']; simp
  have h2 : ∀ i, i < 3 → ∀ g, (V i).ownBlock = some g → O' g = .fld i a := fun i hi g hg => by
    have hne := (hf i hi g hg).2.2
    rw [hO']
    simp only [if_neg hne]
    rcases i with _ | _ | _ | i
    · rw [if_pos hg]
    · rw [if_neg (fun e => by have := hd 0 1 g (by omega) (by omega) e hg; omega), if_pos hg]
    · rw [if_neg (fun e => by have := hd 0 2 g (by omega) (by omega) e hg; omega), if_neg (fun e => by have := hd 1 2 g (by omega) (by omega) e hg; omega), if_pos hg]
    · omega
  have h3 : ∀ k, O' k ≠ O k → k = a ∨ ∃ i, i < 3 ∧ (V i).ownBlock = some k := fun k hk => by
    by_cases e0 : k = a
    · exact .inl e0
    · by_cases e1 : (V 0).ownBlock = some k
      · exact .inr ⟨0, by omega, e1⟩
      · by_cases e2 : (V 1).ownBlock = some k
        · exact .inr ⟨1, by omega, e2⟩
        · by_cases e3 : (V 2).ownBlock = some k
          · exact .inr ⟨2, by omega, e3⟩
          · exact absurd (by rw [hO']; simp only [if_neg e0, if_neg e1, if_neg e2, if_neg e3]) hk
  have h4 : ∀ k, O k ≠ .free → O' k = O k := fun k hk => Classical.byContradiction fun hne => by
    rcases h3 k hne with rfl | ⟨i, hi, hg⟩
    · exact hk ha.1
    · exact hk (hf i hi k hg).1
  have h5 : ∀ k, w.heap.size ≤ k → O' k = .free := fun k hk => Classical.byContradiction fun hne => by
    rcases h3 k (by rw [h.store.free k hk]; exact hne) with rfl | ⟨i, hi, hg⟩
    · omega
    · have := (hF i hi).lt hg; omega
  have h6 : ∀ k, k < w0.heap.size → O' k = O k := fun k hk => Classical.byContradiction fun hne => by
    rcases h3 k hne with rfl | ⟨i, hi, hg⟩
    · omega
    · have := (hf i hi k hg).2.1; omega
  have hc := h.claim h4 h5 h6
  have hrow : ∀ k, O k = .row → w.heap[k]? = w.heap[k]? ∧ O' k = .row := fun k hk => ⟨rfl, (h4 k (by rw [hk]; simp)).trans hk⟩
  have hN : NodeAt w O' a n V := ⟨hb, h1, hF, h2, fun e he => (hre e he).of hrow, fun k hk => (hrk k hk).of hrow⟩
  have hM : M a = none := by
    cases hm : M a with
    | none => rfl
    | some m =>
      obtain ⟨V', hV'⟩ := h.store.at_ a m hm
      have := hV'.own
      rw [ha.1] at this
      cases this
  refine ⟨O', ⟨⟨fun b nb hb' => ?_, h5⟩, hc.os, hc.tape, hc.output, hc.size, hc.own, hc.keep⟩, hN, hM, h4, h3⟩
  by_cases hba : b = a
  · subst hba
    rw [upd_same] at hb'
    injection hb' with hb'
    subst hb'
    exact ⟨V, hN⟩
  · rw [upd_ne hba] at hb'
    exact hc.store.at_ b nb hb'
end

/-- What a walk reads at a node. -/
theorem NodeAt.cells {w : World} {O : Own'} {a : Nat} {n : NC} {V : Nat → Value} (h : NodeAt w O a n V) :
    ∃ A0 c0 A1 c1 A2 c2, V 0 = .slice A0 n.es.length c0 ∧ V 1 = .slice A1 n.ks.length c1 ∧ V 2 = .slice A2 n.cs.length c2
      ∧ w.cell? ⟨a, 0, none⟩ = some (.slice A0 n.es.length c0) ∧ w.cell? ⟨a, 1, none⟩ = some (.slice A1 n.ks.length c1) ∧ w.cell? ⟨a, 2, none⟩ = some (.slice A2 n.cs.length c2)
      ∧ (∀ i, w.frozen? ⟨a, i, none⟩ = false) ∧ Own 2 Ent.cs 81 0 w (.slice A0 n.es.length c0) n.es ∧ Own 1 Key.cs 35 0 w (.slice A1 n.ks.length c1) n.ks ∧ Own 1 Nid.cs 82 0 w (.slice A2 n.cs.length c2) n.cs := by
  have f0 : Own 2 Ent.cs 81 0 w (V 0) n.es := h.fld 0 (by omega)
  have f1 : Own 1 Key.cs 35 0 w (V 1) n.ks := h.fld 1 (by omega)
  have f2 : Own 1 Nid.cs 82 0 w (V 2) n.cs := h.fld 2 (by omega)
  obtain ⟨A0, c0, e0, -, -⟩ := f0.form
  obtain ⟨A1, c1, e1, -, -⟩ := f1.form
  obtain ⟨A2, c2, e2, -, -⟩ := f2.form
  rw [e0] at f0
  rw [e1] at f1
  rw [e2] at f2
  refine ⟨A0, c0, A1, c1, A2, c2, e0, e1, e2, ?_, ?_, ?_, fun i => frozen_of_row w a i _ _ h.blk, f0, f1, f2⟩
  · rw [cell_of_row _ _ _ _ _ _ h.blk, e0]; rfl
  · rw [cell_of_row _ _ _ _ _ _ h.blk, e1]; rfl
  · rw [cell_of_row _ _ _ _ _ _ h.blk, e2]; rfl

theorem NodeAt.cell {w : World} {O : Own'} {a : Nat} {n : NC} {V : Nat → Value} (h : NodeAt w O a n V) {i : Nat} (hi : i < 3) {v : Value} (hv : V i = v) : w.cell? ⟨a, i, none⟩ = some v := by
  rw [cell_of_row _ _ _ _ _ _ h.blk, ← hv]
  rcases i with _ | _ | _ | i
  · rfl
  · rfl
  · rfl
  · omega
theorem NodeAt.frozen {w : World} {O : Own'} {a : Nat} {n : NC} {V : Nat → Value} (h : NodeAt w O a n V) (i : Nat) : w.frozen? ⟨a, i, none⟩ = false := frozen_of_row w a i _ _ h.blk
theorem NodeAt.below {w w' : World} {O O' : Own'} {a : Nat} {n : NC} {V : Nat → Value} (h : NodeAt w O a n V) (hf : ∀ k, w.heap.size ≤ k → O k = .free) (hb : Below w.heap.size w w') (hO : ∀ k, O k ≠ .free → O' k = O k) : NodeAt w' O' a n V := by
  refine h.keep fun k hk => ?_
  have hne : O k ≠ .free := by
    rcases hk with rfl | ⟨i, hi⟩ | hk
    · rw [h.own]; simp
    · rw [hi]; simp
    · rw [hk]; simp
  exact ⟨hb.block k (Nat.lt_of_not_le fun h' => hne (hf k h')), hO k hne⟩
/-- Another node, behind a change of one field. -/
theorem NodeAt.other_new {w w' : World} {O : Own'} {a b : Nat} {n nb : NC} {V Vb : Nat → Value} (h : NodeAt w O a n V) (hb : NodeAt w O b nb Vb) (hne : b ≠ a) (hfree : ∀ k, w.heap.size ≤ k → O k = .free) {i : Nat} {v' : Value}
    (hx : Below w.heap.size w w') (hf : ∀ g, v'.ownBlock = some g → w.heap.size ≤ g) : NodeAt (w'.setCell ⟨a, i, none⟩ v') (ownBy O v' (.fld i a)) b nb Vb := by
  refine hb.keep fun k hk => ?_
  have hk1 : O k ≠ .free ∧ k ≠ a := by
    rcases hk with rfl | ⟨j, hj⟩ | hk
    · rw [hb.own]; exact ⟨by simp, hne⟩
    · rw [hj]
      refine ⟨by simp, fun e => ?_⟩
      rw [e, h.own] at hj; cases hj
    · rw [hk]
      refine ⟨by simp, fun e => ?_⟩
      rw [e, h.own] at hk; cases hk
  have hlt : k < w.heap.size := Nat.lt_of_not_le fun h' => hk1.1 (hfree k h')
  refine ⟨(heap_setCell_off hk1.2 v').trans (hx.block k hlt), ?_⟩
  refine ownBy_ne fun e => ?_
  have := hf k e
  omega
theorem NodeAt.other {w w' : World} {O : Own'} {a b : Nat} {n nb : NC} {V Vb : Nat → Value} (h : NodeAt w O a n V) (hb : NodeAt w O b nb Vb) (hne : b ≠ a) (hfree : ∀ k, w.heap.size ≤ k → O k = .free) {i : Nat} (hi : i < 3) {v' : Value}
    (hx : w.grownBy w' (V i).ownBlock) (hf : ∀ g, v'.ownBlock = some g → O g = .fld i a ∨ O g = .free) : NodeAt (w'.setCell ⟨a, i, none⟩ v') (ownBy O v' (.fld i a)) b nb Vb := by
  refine hb.keep fun k hk => ?_
  have hk1 : O k ≠ .free ∧ O k ≠ .fld i a ∧ k ≠ a := by
    rcases hk with rfl | ⟨j, hj⟩ | hk
    · rw [hb.own]; exact ⟨by simp, by simp, hne⟩
    · rw [hj]
      refine ⟨by simp, fun e => by injection e with _ e; exact hne e, fun e => ?_⟩
      rw [e, h.own] at hj; cases hj
    · rw [hk]
      refine ⟨by simp, by simp, fun e => ?_⟩
      rw [e, h.own] at hk; cases hk
  have hlt : k < w.heap.size := Nat.lt_of_not_le fun h' => hk1.1 (hfree k h')
  refine ⟨(heap_setCell_off hk1.2.2 v').trans (hx.block k hlt fun e => hk1.2.1 (h.whose i hi k e.symm)), ?_⟩
  refine ownBy_ne fun e => ?_
  rcases hf k e with h' | h'
  · exact hk1.2.1 h'
  · exact hk1.1 h'
end Go.Proofs.Ytjdcnkbkbcfhfaa
