/-
  The walk of value.Validate.
-/
import Derived.Test.YtefifkleamiabaaRows
import Derived.Test.YtefifkleamiabaaMem
import Derived.Test.YtefifkleamiabaaVal
namespace Go.Proofs.Ytefifkleamiabaa
open Go.RowKit

set_option maxHeartbeats 1000000 in
theorem validate (k n : Int) (s : ByteArray) (w : World) :
    Calls Try.prog 36 #[.agg #[.int .i64 k, .int .i64 n, .string s]] w fun e w' => e = .returned (.int .i64 (vErr k n s)) ∧ Below w.heap.size w w' := by
  by_cases hk0 : k = 0
  · subst hk0
    by_cases hn : n = 0
    · subst hn
      go_enter Try.func36, Try.ntmps36
      go_wp2
      all_goals (go_ret; exact ⟨ret_int (by simp_all [vErr]), (Below.refl _ _).alloc (Nat.le_refl _) _⟩)
    · go_enter Try.func36, Try.ntmps36
      go_wp2
      all_goals (go_ret; exact ⟨ret_int (by simp_all [vErr]), (Below.refl _ _).alloc (Nat.le_refl _) _⟩)
  by_cases hk1 : k = 1
  · subst hk1
    go_enter Try.func36, Try.ntmps36
    go_wp2
    all_goals (go_ret; exact ⟨ret_int (by simp_all [vErr] <;> omega), (Below.refl _ _).alloc (Nat.le_refl _) _⟩)
  by_cases hk2 : k = 2
  · subst hk2
    by_cases hn : n = 0
    · subst hn
      go_enter Try.func36, Try.ntmps36
      go_wp2
      all_goals (go_ret; exact ⟨ret_int (by simp_all [vErr] <;> omega), (Below.refl _ _).alloc (Nat.le_refl _) _⟩)
    by_cases hn1 : n = 1
    · subst hn1
      go_enter Try.func36, Try.ntmps36
      go_wp2
      all_goals (go_ret; exact ⟨ret_int (by simp_all [vErr] <;> omega), (Below.refl _ _).alloc (Nat.le_refl _) _⟩)
    · go_enter Try.func36, Try.ntmps36
      go_wp2
      all_goals (go_ret; exact ⟨ret_int (by simp_all [vErr] <;> omega), (Below.refl _ _).alloc (Nat.le_refl _) _⟩)
  by_cases hk3 : k = 3
  · subst hk3
    by_cases hn : n = 0
    · subst hn
      go_enter Try.func36, Try.ntmps36
      go_wp2
      all_goals (go_ret; exact ⟨ret_int (by simp_all [vErr] <;> omega), (Below.refl _ _).alloc (Nat.le_refl _) _⟩)
    · go_enter Try.func36, Try.ntmps36
      go_wp2
      all_goals (go_ret; exact ⟨ret_int (by simp_all [vErr] <;> omega), (Below.refl _ _).alloc (Nat.le_refl _) _⟩)
  · go_enter Try.func36, Try.ntmps36
    go_wp2
    all_goals (go_ret; exact ⟨ret_int (by simp_all [vErr] <;> omega), (Below.refl _ _).alloc (Nat.le_refl _) _⟩)

end Go.Proofs.Ytefifkleamiabaa
