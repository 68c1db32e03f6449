/-
  The walks of slices.Grow (from nil) and slices.Concat over runs.
-/
import Derived.Test.YtimndhnbbmedbaaAppRun
import Derived.Lib.AppendZeros
namespace Go.Proofs.Ytimndhnbbmedbaa
open Go.RowKit

set_option maxRecDepth 100000 in
set_option maxHeartbeats 1000000 in
theorem grow_nil (n : Nat) (w : World) (hn : n ≤ 100000) :
    Calls Try.prog 29 #[.slice none 0 0, .int .i64 n] w fun e w' => ∃ v, e = .returned v ∧ Runs w.heap.size w' v [] ∧ Below w.heap.size w w' := by
  rcases Nat.eq_zero_or_pos n with rfl | hpos
  · go_enter Try.func29, Try.ntmps29
    go_wp2_with fail
    go_ret
    exact ⟨_, rfl, Own.nil _, Below.refl _ _⟩
  · obtain ⟨i, z, hi, hz, h2, h3, h4⟩ := elem_run.info
    have happ := Lib.run_append_nil_zeros (P := Try.prog) w 27 3 27 45 i z .i64 .i64 elem_run.und Try.underlying3 hi hz n hpos (by omega) (by omega) (by rw [h3]; omega)
    generalize hcap : grownCap w n 0 45 = cap2 at happ
    have hcapge : n ≤ cap2 := by rw [← hcap]; exact grownCap_ge w _ 0 _
    have hcaple : cap2 ≤ maxLen := by rw [← hcap]; exact grownCap_le_maxLen w _ 0 _ (by unfold maxLen; omega)
    generalize hZ : (Builtin.zeroCells z.cells n ++ Builtin.zeroCells z.cells (cap2 - n)) = Z at happ
    have hZs : Z.size = cap2 * 4 := by rw [← hZ]; simp [size_zeroCells, h4]; omega
    have HO := Lib.hid (World.ownsRow_made (base := w.heap.size) (e := 45) (size := 4) w.drew Z cap2 (Nat.le_refl _) hcaple hZs)
    have hg0 : (0 : Int) < (n : Int) := by omega
    have hc0 : (0 : Int) ≤ (cap2 : Int) := by omega
    have HM := Lib.hid hcaple
    clear hcap hZ hcaple hi hz h2 h3 h4
    go_enter Try.func29, Try.ntmps29
    go_wp2_with (at_builtin; refine Lib.wpList_append_run _ rfl _ _ _ _ rfl _ _ rfl rfl _ _ happ ?_)
    go_ret
    exact ⟨_, rfl, HO.out, (Below.refl _ _).drew.alloc (Nat.le_refl _) _⟩

end Go.Proofs.Ytimndhnbbmedbaa
