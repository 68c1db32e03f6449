/-
  Equality of two column values.
-/
import Derived.Test.YtakbabkcidioaaaRows
import Derived.Test.YtakbabkcidioaaaOwn
import Derived.Test.YtakbabkcidioaaaVal
import Derived.Deep.QuietTactic
import Derived.BigQuiet
namespace Go.Proofs.Ytakbabkcidioaaa
open Go.RowKit

theorem take_eq_succ {α : Type} {xs ys : List α} {k : Nat} (h1 : k < xs.length) (h2 : k < ys.length) (h : xs.take k = ys.take k) (he : xs[k] = ys[k]) : xs.take (k + 1) = ys.take (k + 1) := by
  rw [List.take_succ_eq_append_getElem h1, List.take_succ_eq_append_getElem h2, h, he]

/-- Equality of two column values. -/
theorem eq_val (k n k' n' : Int) (s s' : ByteArray) (w : World) :
    (Op.equalIn 10000 43 (.agg #[.int .i64 k, .int .i64 n, .string s]) (.agg #[.int .i64 k', .int .i64 n', .string s'])).run Try.prog w = .ok (k == k' && (n == n' && s.toList == s'.toList)) w := by
  have u3 := Try.underlying3
  have a3 := Try.isAgg3
  have z3 := Try.sizeOf3
  have u9 := Try.underlying9
  have a9 := Try.isAgg9
  have z9 := Try.sizeOf9
  have hS : Try.prog.underlying 43 = some (.struct (Try.prog.fieldsOf 43)) := by kernel_rfl
  have hp : Try.prog.stoodInHeld 43 = false := by kernel_rfl
  rw [show (10000 : Nat) = 9999 + 1 from rfl, run_equalIn_agg w 9999 43 _ _ hS hp]
  simp only [Program.fieldsOf, Try.underlying43]
  go_simp
  by_cases h1 : k = k' <;> by_cases h2 : n = n' <;> by_cases h3 : s.toList = s'.toList <;> simp [h1, h2, h3]

theorem neq_val (k n k' n' : Int) (s s' : ByteArray) (w : World) :
    (binOp .neq 43 (.agg #[.int .i64 k, .int .i64 n, .string s]) (.agg #[.int .i64 k', .int .i64 n', .string s'])).run Try.prog w = .ok (.bool (!(k == k' && (n == n' && s.toList == s'.toList)))) w := by
  rw [run_neq_struct, eq_val]
  rfl

theorem Val.ext_iff' (x y : Val) : (x.kind == y.kind && (x.int == y.int && x.text.toList == y.text.toList)) = decide (x = y) := by
  obtain ⟨a, b, s⟩ := x
  obtain ⟨c, d, t⟩ := y
  have : (s.toList == t.toList) = decide (s = t) := by
    by_cases h : s = t
    · subst h; simp
    · have h' : s.toList ≠ t.toList := by
        intro e
        apply h
        rw [ByteArray.toList_eq, ByteArray.toList_eq] at e
        obtain ⟨⟨x⟩⟩ := s
        obtain ⟨⟨y⟩⟩ := t
        simp at e
        rw [e]
      simp [h, h']
  simp only [Val.mk.injEq, this]
  by_cases h1 : a = c <;> by_cases h2 : b = d <;> by_cases h3 : s = t <;> simp [h1, h2, h3]

theorem eql_val (k n k' n' : Int) (s s' : ByteArray) (w : World) :
    (binOp .eql 43 (.agg #[.int .i64 k, .int .i64 n, .string s]) (.agg #[.int .i64 k', .int .i64 n', .string s'])).run Try.prog w = .ok (.bool (k == k' && (n == n' && s.toList == s'.toList))) w := by
  rw [run_eql_struct, eq_val]
  rfl

end Go.Proofs.Ytakbabkcidioaaa
