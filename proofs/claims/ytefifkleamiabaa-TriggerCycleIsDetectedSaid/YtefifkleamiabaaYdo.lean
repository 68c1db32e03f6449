/-
  The walks of slices.Delete of one element: entries and keys of an index. (Printed by secops.py.)
-/
import Derived.Test.YtefifkleamiabaaYio
namespace Go.Proofs.Ytefifkleamiabaa
open Go.RowKit

set_option maxRecDepth 100000 in
set_option maxHeartbeats 2000000 in
theorem delKey_in (g n c i : Nat) (w : World) {cur : Array Value} {D : List Value} (hg : w.heap[g]? = some (.cells cur 23 (0, 0))) (hs : cur.size = c) (hin : i < n) (hnc : n ≤ c) (hcm : c ≤ 9223372036854775807)
    (hD : (cur.toList.drop ((i + 1))).take ((n - (i + 1))) = D) (hDl : D.length = (n - (i + 1))) (hD1 : ∀ v ∈ D, v.oneCell' = true) (hl : n ≤ 1000) :
    Calls Try.prog 52 #[.slice (some ⟨g, 0, none⟩) n c, .int .i64 i, .int .i64 ((i : Int) + 1)] w fun e w' => ∃ vs : List Value, vs.length = 1 ∧ e = .returned (.slice (some ⟨g, 0, none⟩) (n - 1) c) ∧ w' = (w.drew.setCells g (i) D).setCells g ((n - 1)) vs := by
  obtain ⟨m, hm⟩ : ∃ m, m = n - 1 := ⟨_, rfl⟩
  obtain rfl : n = m + 1 := by omega
  have h2 : ¬ (c = i) := by omega
  have h3 : ¬ ((i : Int) = (i : Int) + 1) := by omega
  have h5 : ¬ (c = m) := by omega
  have hb1 : (0 : Int) ≤ (i : Int) + 1 := by omega
  have hb2 : (i : Int) + 1 ≤ (m : Int) + 1 := by omega
  have hb3 : (i : Int) ≤ (m : Int) + 1 := by omega
  have hb4 : (m : Int) + 1 ≤ (c : Int) := by omega
  have hb5 : (i : Int) ≤ (i : Int) + 1 := by omega
  have hb6 : (i : Int) ≤ (c : Int) := by omega
  have htn : ((i : Int) + 1).toNat = i + 1 := by omega
  have e0 : m + 1 - 1 = m := rfl
  have HA : Hid (∀ ty A k sc, k = m + 1 - (i + 1) → (D = [] ∨ A = (⟨g, (i + 1), none⟩ : Addr)) → (Builtin.append_ #[71, 71] ty #[.slice (some ⟨g, 0, none⟩) i c,   .slice (some A) k sc]).run Try.prog w.drew = .ok (.slice (some ⟨g, 0, none⟩) m c) (w.drew.setCells g (i) D)) := Lib.hid fun ty A k sc hk hA => by
    subst hk
    have e3 : i + (m + 1 - (i + 1)) = m := by omega
    have hsrc : ∀ j v, D[j]? = some v → w.drew.cell? (A.add j) = some v := by
      rcases hA with h | h
      · subst h
        intro j v hj
        simp at hj
      · rw [h]
        exact blk_cells (w := w.drew) hg hD hDl
    have := run_append_blk (P := Try.prog) elem_keys w.drew ty (g := g) (i := i) (c := c) (m := m + 1 - (i + 1)) (sCap := sc) (a := A) (cs := D) hg (by omega) hsrc (by omega) (by rw [hDl, hs]; omega) hD1
    rw [e3, Nat.mul_one] at this
    exact this
  obtain ⟨it, z, hi, hz, hisz, hiby, hzc⟩ := elem_keys.info
  have HC : Hid (∃ vs : List Value, vs.length = 1 ∧ ∀ ty sc, (Builtin.clear_ #[71] ty #[.slice (some ⟨g, m, none⟩) 1 sc]).run Try.prog (w.drew.setCells g (i) D) = .ok (.tuple #[]) ((w.drew.setCells g (i) D).setCells g (m) vs)) := Lib.hid (by
    have hz0 : (Try.prog.info? 23).bind (·.zero) = some (.slice none 0 0) := by kernel_rfl
    obtain ⟨vs, h1, h2⟩ := run_clear_blk (P := Try.prog) elem_keys hz0 (by intro v hv; simp [Value.cells] at hv; (try rcases hv with rfl | rfl) <;> (try subst hv) <;> rfl) (w.drew.setCells g (i) D) 0 (g := g) (o := m) (n := 1) (c := 0) (heap_setCells_eq D _ w.drew cur hg) (by rw [putL_size, hs]; omega)
    exact ⟨vs, h1, fun ty sc => h2⟩)
  obtain ⟨vs, hvs, hcl⟩ := HC.out
  have HCL := Lib.hid hcl
  have HD0 : Hid (c = i + 1 → D = []) := Lib.hid fun h => List.eq_nil_of_length_eq_zero (by
    omega)
  have HV := Lib.hid hvs
  clear HC hcl hvs hg hs hD hDl hD1 hi hz hisz hiby hzc hm
  rcases Decidable.em (c = i + 1) with h6 | h6
  · have HD := Lib.hid (HD0.out h6)
    clear HD0
    subst h6
    have h7 : m = i := by omega
    subst h7
    go_enter Try.func52, Try.ntmps52
    go_wp2_with fail
    go_still_tail 6, (by kernel_rfl)
    change wpList _ _ _ _ _ w.drew
    refine wpList_app (R := fun v' w' => v' = _ ∧ w' = _) rfl (.tmp 22) (.tmp 25) _ _ rfl rfl rfl ⟨_, _, HA.out _ _ _ _ (by omega) (.inl HD.out), rfl, rfl⟩ ?_
    rintro _ _ ⟨rfl, rfl⟩
    go_wp2_with fail
    rw [HCL.out]
    simp only [Result.andThen]
    rw [Oper.upon_value]
    go_wp2_with fail
    go_ret
    exact ⟨vs, HV.out, rfl, rfl⟩
  · go_enter Try.func52, Try.ntmps52
    go_wp2_with fail
    go_still_tail 6, (by kernel_rfl)
    change wpList _ _ _ _ _ w.drew
    refine wpList_app (R := fun v' w' => v' = _ ∧ w' = _) rfl (.tmp 22) (.tmp 25) _ _ rfl rfl rfl ⟨_, _, HA.out _ _ _ _ (by omega) (.inr rfl), rfl, rfl⟩ ?_
    rintro _ _ ⟨rfl, rfl⟩
    go_wp2_with fail
    rw [HCL.out]
    simp only [Result.andThen]
    rw [Oper.upon_value]
    go_wp2_with fail
    go_ret
    exact ⟨vs, HV.out, rfl, rfl⟩

/-- One element is taken out. -/
theorem delKey (A : Option Addr) (c : Nat) (xs : List Key) (i : Nat) (w : World) (hown : Own 1 Key.cs 23 0 w (.slice A xs.length c) xs) (hi : i < xs.length) (hl : xs.length ≤ 1000) :
    Calls Try.prog 52 #[.slice A xs.length c, .int .i64 i, .int .i64 ((i : Int) + 1)] w fun e w' => ∃ v', e = .returned v' ∧ Own 1 Key.cs 23 0 w' v' (xs.take i ++ xs.drop (i + 1)) ∧ Ext w (.slice A xs.length c) w' v' := by
  obtain ⟨g, c', cur, hv, _, hg, hcl, hcm, hs, ht⟩ := hown.open_ (by omega)
  injection hv with h1 _ h2
  subst h1 h2
  have hm := tk_mid keyLay ht hi
  have hDl : ((xs.drop (i + 1)).flatMap Key.cs).length = (xs.length - (i + 1)) * 1 := by rw [flat_len keyLay, List.length_drop]
  simp only [Nat.mul_one] at hs hm hDl
  refine (delKey_in g xs.length c i w hg hs hi hcl hcm hm.2 hDl (flat_one keyLay _) hl).mono ?_
  rintro e w' ⟨vs, h1, rfl, rfl⟩
  exact ⟨_, rfl, (by have h := own_del keyLay hg hcl hcm (by rw [Nat.mul_one]; exact hs) ht hi h1 rfl; simp only [Nat.mul_one] at h; exact h)⟩


end Go.Proofs.Ytefifkleamiabaa
