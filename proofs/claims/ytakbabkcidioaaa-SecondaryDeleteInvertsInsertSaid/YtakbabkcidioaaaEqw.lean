/-
  The walk of RowsEqual.
-/
import Derived.Test.YtakbabkcidioaaaRows
import Derived.Test.YtakbabkcidioaaaOwn
import Derived.Test.YtakbabkcidioaaaVal
import Derived.Deep.QuietTactic
import Derived.BigQuiet
import Derived.Test.YtakbabkcidioaaaEqv
namespace Go.Proofs.Ytakbabkcidioaaa
open Go.RowKit

set_option maxRecDepth 100000 in
set_option maxHeartbeats 400000 in
theorem rowsEqual (A B : Option Addr) (c d : Nat) (xs ys : List Val) (w : World) (S T : Nat → Prop) (hx : Elems 3 Val.cs w S A xs) (hy : Elems 3 Val.cs w T B ys) (hl : xs.length ≤ maxLen) (hl2 : ys.length ≤ maxLen) :
    Calls Try.prog 21 #[.slice A xs.length c, .slice B ys.length d] w fun e w' => e = .returned (.bool (decide (xs = ys))) ∧ ∃ n, w' = w.drewN n := by
  unfold maxLen at hl hl2
  have hg : Try.prog.eqGuardType Try.prog.depth 43 = false := by kernel_rfl
  by_cases hlen : xs.length = ys.length
  · have HL := Lib.hid hlen
    have hll : ys.length ≤ xs.length := by omega
    have hne : ((xs.length : Int) != (ys.length : Int)) = false := by simp [hlen]
    clear hlen
    go_enter Try.func21, Try.ntmps21
    go_wp2_with fail
    go_loopw [13] (fun i wr => ∃ k n : Nat, k ≤ xs.length ∧ i = .int .i64 k ∧ xs.take k = ys.take k ∧ wr = w.drewN n) (fun i _ => xs.length - (intOf i).toNat)
    case atStart => exact ⟨0, 0, by omega, rfl, rfl, rfl⟩
    case round =>
      obtain ⟨k, n, hk, rfl, ht, rfl⟩ := hrel
      by_cases hlt : k < xs.length
      · obtain ⟨b, off, rfl, _, c0, c1, c2⟩ := hx.val hlt
        obtain ⟨b', off', rfl, _, d0, d1, d2⟩ := hy.val (k := k) (by have := HL.out; omega)
        have hi1 : (k : Int) < (xs.length : Int) := by omega
        have hi2 : (k : Int) < (ys.length : Int) := by have := HL.out; omega
        have hi0 : (0 : Int) ≤ (k : Int) := by omega
        have hv := fun W => neq_val xs[k].kind xs[k].int (ys[k]'(by omega)).kind (ys[k]'(by omega)).int xs[k].text (ys[k]'(by omega)).text W
        rw [Val.ext_iff'] at hv
        by_cases heq : xs[k] = ys[k]'(by omega)
        · have HT := Lib.hid (take_eq_succ hlt (by omega) ht heq)
          have hd : decide (xs[k] = ys[k]'(by omega)) = true := by simp [heq]
          rw [hd] at hv
          clear ht hd
          generalize xs[k] = x at *
          generalize (ys[k]'(by omega)) = y at *
          have HQ := Lib.hid heq
          clear heq
          go_wp2_with fail
          go_quiet (fail)
          go_wp2_with fail
          go_roundw
          case rel => exact ⟨k + 1, _, by omega, by go_num, HT.out, rfl⟩
          case measure => simp [intOf]; omega
        · have hd : decide (xs[k] = ys[k]'(by omega)) = false := by simp [heq]
          have HT : Hid (xs ≠ ys) := by
            intro h
            subst h
            exact heq rfl
          rw [hd] at hv
          clear ht hd
          generalize xs[k] = x at *
          generalize (ys[k]'(by omega)) = y at *
          have HQ := Lib.hid heq
          clear heq
          go_wp2_with fail
          go_quiet (fail)
          go_wp2_with fail
          go_ret
          exact ⟨ret_bool (by simp [HT.out]), _, World.drewN_drewN _ _ _⟩
      · go_wp2_with fail
        go_ret
        exact ⟨ret_bool (by
          have h1 : k = xs.length := by omega
          subst h1
          have h2 := HL.out
          rw [List.take_of_length_le (Nat.le_refl _), h2, List.take_of_length_le (Nat.le_refl _)] at ht
          simp [ht]), _, rfl⟩
  · have hne : ((xs.length : Int) != (ys.length : Int)) = true := by rw [bne_iff_ne]; omega
    have HL := Lib.hid hlen
    clear hlen
    go_enter Try.func21, Try.ntmps21
    go_wp2_with fail
    go_ret
    exact ⟨ret_bool (by
      have : xs ≠ ys := fun h => HL.out (by rw [h])
      simp [this]), 0, rfl⟩

end Go.Proofs.Ytakbabkcidioaaa
