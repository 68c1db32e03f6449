/-
  The walk of slices.Equal over runs.
-/
import Derived.Test.YtimndhnbbmedbaaAppRun
import Derived.Deep.QuietTactic
import Derived.BigQuiet
namespace Go.Proofs.Ytimndhnbbmedbaa
open Go.RowKit

theorem Run.ext_iff' (x y : Run) : x = y ↔ x.v = y.v ∧ x.n = y.n := by
  obtain ⟨a, b⟩ := x
  obtain ⟨c, d⟩ := y
  simp
instance : DecidableEq Run := fun x y => if h : x.v = y.v ∧ x.n = y.n then .isTrue ((Run.ext_iff' x y).2 h) else .isFalse fun e => h ((Run.ext_iff' x y).1 e)

theorem neq_run (x y : Run) (w : World) :
    (binOp .neq 45 (.agg #[.int .i64 x.v.kind, .int .i64 x.v.int, .string x.v.text, .int .i64 (x.n : Int)]) (.agg #[.int .i64 y.v.kind, .int .i64 y.v.int, .string y.v.text, .int .i64 (y.n : Int)])).run Try.prog w = .ok (.bool (!decide (x = y))) w := by
  have u3 := Try.underlying3
  have a3 := Try.isAgg3
  have z3 := Try.sizeOf3
  have av := Try.isAgg26
  have zv := Try.sizeOf26
  have hS : Try.prog.underlying 45 = some (.struct (Try.prog.fieldsOf 45)) := by kernel_rfl
  have hp : Try.prog.stoodInHeld 45 = false := by kernel_rfl
  rw [run_neq_struct, show (10000 : Nat) = 9999 + 1 from rfl, run_equalIn_agg w 9999 45 _ _ hS hp]
  simp only [Program.fieldsOf, Try.underlying45]
  go_simp
  have hv := Val.ext_iff' x.v y.v
  have hd : decide (x = y) = (decide (x.v = y.v) && decide ((x.n : Int) = (y.n : Int))) := by
    have e : ((x.n : Int) = (y.n : Int)) ↔ x.n = y.n := by omega
    by_cases h1 : x.v = y.v <;> by_cases h2 : x.n = y.n <;> simp only [Run.ext_iff', h1, h2, e] <;> rfl
  rw [hd, ← hv]
  by_cases h1 : x.v.kind = y.v.kind <;> by_cases h2 : x.v.int = y.v.int <;> by_cases h3 : x.v.text.toList = y.v.text.toList <;> by_cases h4 : (x.n : Int) = (y.n : Int) <;> simp [h1, h2, h3, h4]

set_option maxRecDepth 100000 in
set_option maxHeartbeats 400000 in
theorem runsEqual (A B : Option Addr) (c d : Nat) (xs ys : List Run) (w : World) (S T : Nat → Prop) (hx : Elems 4 Run.cs w S A xs) (hy : Elems 4 Run.cs w T B ys) (hl : xs.length ≤ maxLen) (hl2 : ys.length ≤ maxLen) :
    Calls Try.prog 16 #[.slice A xs.length c, .slice B ys.length d] w fun e w' => e = .returned (.bool (decide (xs = ys))) ∧ ∃ n, w' = w.drewN n := by
  unfold maxLen at hl hl2
  have hg : Try.prog.eqGuardType Try.prog.depth 45 = false := by kernel_rfl
  by_cases hlen : xs.length = ys.length
  · have HL := Lib.hid hlen
    have hll : ys.length ≤ xs.length := by omega
    have hne : ((xs.length : Int) != (ys.length : Int)) = false := by simp [hlen]
    clear hlen
    go_enter Try.func16, Try.ntmps16
    go_wp2_with fail
    go_loopw [13] (fun i wr => ∃ k n : Nat, k ≤ xs.length ∧ i = .int .i64 k ∧ xs.take k = ys.take k ∧ wr = w.drewN n) (fun i _ => xs.length - (intOf i).toNat)
    case atStart => exact ⟨0, 0, by omega, rfl, rfl, rfl⟩
    case round =>
      obtain ⟨k, n, hk, rfl, ht, rfl⟩ := hrel
      by_cases hlt : k < xs.length
      · obtain ⟨b, off, rfl, _, c0, c1, c2, c3⟩ := hx.run hlt
        obtain ⟨b', off', rfl, _, d0, d1, d2, d3⟩ := hy.run (k := k) (by have := HL.out; omega)
        have hi1 : (k : Int) < (xs.length : Int) := by omega
        have hi2 : (k : Int) < (ys.length : Int) := by have := HL.out; omega
        have hi0 : (0 : Int) ≤ (k : Int) := by omega
        have hv := fun W => neq_run xs[k] (ys[k]'(by omega)) W
        by_cases heq : xs[k] = ys[k]'(by omega)
        · have HT := Lib.hid (take_eq_succ hlt (by omega) ht heq)
          have hd : decide (xs[k] = ys[k]'(by omega)) = true := by simp [heq]
          rw [hd] at hv
          clear ht hd
          generalize xs[k] = x at *
          generalize (ys[k]'(by omega)) = y at *
          have HQ := Lib.hid heq
          clear heq
          go_wp2_with fail
          go_quiet (fail)
          go_wp2_with fail
          go_roundw
          case rel => exact ⟨k + 1, _, by omega, by go_num, HT.out, rfl⟩
          case measure => simp [intOf]; omega
        · have hd : decide (xs[k] = ys[k]'(by omega)) = false := by simp [heq]
          have HT : Hid (xs ≠ ys) := by
            intro h
            subst h
            exact heq rfl
          rw [hd] at hv
          clear ht hd
          generalize xs[k] = x at *
          generalize (ys[k]'(by omega)) = y at *
          have HQ := Lib.hid heq
          clear heq
          go_wp2_with fail
          go_quiet (fail)
          go_wp2_with fail
          go_ret
          exact ⟨ret_bool (by simp [HT.out]), _, World.drewN_drewN _ _ _⟩
      · go_wp2_with fail
        go_ret
        exact ⟨ret_bool (by
          have h1 : k = xs.length := by omega
          subst h1
          have h2 := HL.out
          rw [List.take_of_length_le (Nat.le_refl _), h2, List.take_of_length_le (Nat.le_refl _)] at ht
          simp [ht]), _, rfl⟩
  · have hne : ((xs.length : Int) != (ys.length : Int)) = true := by rw [bne_iff_ne]; omega
    have HL := Lib.hid hlen
    clear hlen
    go_enter Try.func16, Try.ntmps16
    go_wp2_with fail
    go_ret
    exact ⟨ret_bool (by
      have : xs ≠ ys := fun h => HL.out (by rw [h])
      simp [this]), 0, rfl⟩

end Go.Proofs.Ytimndhnbbmedbaa
