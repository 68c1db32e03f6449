/-
  The walk of Mod.
-/
import Derived.Test.YtimndhnbbmedbaaRows
import Derived.Test.YtimndhnbbmedbaaOwn
namespace Go.Proofs.Ytimndhnbbmedbaa
open Go.RowKit

set_option maxRecDepth 100000 in
set_option maxHeartbeats 400000 in
theorem mod_any (k n : Int) (w : World) (hk : -9223372036854775808 ≤ k ∧ k ≤ 9223372036854775807) (h0 : 0 < n) (hn : n ≤ 9223372036854775807) :
    Calls Try.prog 9 #[.int .i64 k, .int .i64 n] w fun e w' => ∃ m : Nat, e = .returned (.int .i64 m) ∧ (m : Int) < n ∧ w = w' := by
  obtain ⟨hk1, hk2⟩ := hk
  by_cases hneg : k < 0
  · have hp : 0 ≤ -(k + 1) := by omega
    have hlt := Int.emod_lt_of_pos (-(k + 1)) h0
    have hge := Int.emod_nonneg (-(k + 1)) (b := n) (by omega)
    obtain ⟨m, hm⟩ := Int.eq_ofNat_of_zero_le hge
    have HM := Lib.hid hm
    clear hm
    go_enter Try.func9, Try.ntmps9
    go_wp2_with fail
    go_ret
    refine ⟨m, ?_, by have := HM.out; omega, rfl⟩
    exact ret_int (by rw [← Int.neg_tmod, Int.tmod_eq_emod_of_nonneg hp]; exact HM.out)
  · have hp : 0 ≤ k := by omega
    have hlt := Int.emod_lt_of_pos k h0
    have hge := Int.emod_nonneg k (b := n) (by omega)
    obtain ⟨m, hm⟩ := Int.eq_ofNat_of_zero_le hge
    have HM := Lib.hid hm
    clear hm
    go_enter Try.func9, Try.ntmps9
    go_wp2_with fail
    go_ret
    refine ⟨m, ?_, by have := HM.out; omega, rfl⟩
    exact ret_int HM.out

end Go.Proofs.Ytimndhnbbmedbaa
