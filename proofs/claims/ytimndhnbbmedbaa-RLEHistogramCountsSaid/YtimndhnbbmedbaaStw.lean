/-
  The walks of the comparison of runs.
-/
import Derived.Test.YtimndhnbbmedbaaSto
import Derived.Test.YtimndhnbbmedbaaAppRun
import Derived.Lib.Walk
import Derived.Shelf.SlSortCmp.QuietGrown
namespace Go.Proofs.Ytimndhnbbmedbaa
open Go.RowKit Go.Sort

theorem compareInts (x y : Int) (w : World) :
    Calls Try.prog 31 #[.int .i64 x, .int .i64 y] w fun e w' => e = .returned (.int .i64 (cmpI x y)) ∧ w = w' := by
  go_enter Try.func31, Try.ntmps31
  go_wp2_with fail
  all_goals
    go_ret
    refine ⟨?_, rfl⟩
    unfold cmpI
    (repeat' split) <;> first | rfl | (exfalso; omega)

set_option maxHeartbeats 1000000 in
set_option maxRecDepth 100000 in
theorem compareString (a b : ByteArray) (w : World) :
    Calls Try.prog 35 #[.string a, .string b] w fun e w' => e = .returned (.int .i64 (Lib.compareBytes a.data.toList b.data.toList)) ∧ w = w' := by
  go_enter Try.func35, Try.ntmps35
  go_wp2
  rw [run_callFunc_extern Try.func37 (by kernel_rfl) (by kernel_rfl) (by kernel_rfl) (e := Extern.BytealgCompare.compare) (by kernel_rfl), Lib.run_compareString]
  simp only [Result.andThen]
  rw [Oper.upon_value]
  go_wp2
  go_ret
  exact ⟨rfl, rfl⟩

set_option maxRecDepth 100000 in
theorem stringsCompare (a b : ByteArray) (w : World) :
    Calls Try.prog 32 #[.string a, .string b] w fun e w' => e = .returned (.int .i64 (Lib.compareBytes a.data.toList b.data.toList)) ∧ w = w' := by
  go_enter Try.func32, Try.ntmps32
  go_wp2_with fail
  refine (compareString _ _ _).mono ?_
  rintro e w' ⟨rfl, rfl⟩
  go_wp2_with fail
  go_ret
  exact ⟨rfl, rfl⟩

set_option maxRecDepth 100000 in
set_option maxHeartbeats 1000000 in
theorem compareVals (a b : Val) (w : World) :
    Calls Try.prog 28 #[.agg #[.int .i64 a.kind, .int .i64 a.int, .string a.text], .agg #[.int .i64 b.kind, .int .i64 b.int, .string b.text]] w fun e w' => e = .returned (.int .i64 (cmpV a b)) ∧ ∃ os, w' = grow w os := by
  obtain ⟨k1, n1, t1⟩ := a
  obtain ⟨k2, n2, t2⟩ := b
  have HV : Hid (cmpV ⟨k1, n1, t1⟩ ⟨k2, n2, t2⟩ = if cmpI k1 k2 = 0 then (if cmpI n1 n2 = 0 then Lib.compareBytes t1.data.toList t2.data.toList else cmpI n1 n2) else cmpI k1 k2) := Lib.hid rfl
  have HG : Hid (∀ o1 o2, ∃ os, (w.alloc o1).alloc o2 = grow w os) := Lib.hid fun o1 o2 => ⟨#[o1] ++ #[o2], by rw [alloc_eq_grow, alloc_eq_grow, grow_grow]⟩
  generalize cmpV ⟨k1, n1, t1⟩ ⟨k2, n2, t2⟩ = cv at *
  generalize hc1 : cmpI k1 k2 = x1 at *
  generalize hc2 : cmpI n1 n2 = x2 at *
  have H1 := Lib.hid hc1
  have H2 := Lib.hid hc2
  clear hc1 hc2
  go_enter Try.func28, Try.ntmps28
  go_wp2_with fail
  refine (compareInts _ _ _).mono ?_
  rintro e w' ⟨rfl, rfl⟩
  rw [H1.out]
  by_cases hx1 : x1 = 0
  · have hz : (x1 != 0) = false := by simp [hx1]
    rw [if_pos hx1] at HV
    clear hx1
    go_wp2_with fail
    refine (compareInts _ _ _).mono ?_
    rintro e w' ⟨rfl, rfl⟩
    rw [H2.out]
    by_cases hx2 : x2 = 0
    · have hz2 : (x2 != 0) = false := by simp [hx2]
      rw [if_pos hx2] at HV
      clear hx2
      go_wp2_with fail
      refine (stringsCompare _ _ _).mono ?_
      rintro e w' ⟨rfl, rfl⟩
      go_wp2_with fail
      go_ret
      exact ⟨ret_int HV.out.symm, HG.out _ _⟩
    · have hz2 : (x2 != 0) = true := by simp [hx2]
      rw [if_neg hx2] at HV
      clear hx2
      go_wp2_with fail
      go_ret
      exact ⟨ret_int HV.out.symm, HG.out _ _⟩
  · have hz : (x1 != 0) = true := by simp [hx1]
    rw [if_neg hx1] at HV
    clear hx1
    go_wp2_with fail
    go_ret
    exact ⟨ret_int HV.out.symm, HG.out _ _⟩

/-- A run as one value. -/
def Run.agg (r : Run) : Value := .agg #[.int .i64 r.v.kind, .int .i64 r.v.int, .string r.v.text, .int .i64 (r.n : Int)]

set_option maxRecDepth 100000 in
set_option maxHeartbeats 1000000 in
theorem cmpRuns (a b : Run) (w : World) :
    Calls Try.prog 27 #[a.agg, b.agg] w fun e w' => e = .returned (.int .i64 (cmpV a.v b.v)) ∧ ∃ os, w' = grow w os := by
  obtain ⟨⟨k1, n1, t1⟩, m1⟩ := a
  obtain ⟨⟨k2, n2, t2⟩, m2⟩ := b
  unfold Run.agg
  have HG : Hid (∀ o1 o2 os, ∃ os', grow ((w.alloc o1).alloc o2) os = grow w os') := Lib.hid fun o1 o2 os => ⟨#[o1] ++ (#[o2] ++ os), by rw [alloc_eq_grow, alloc_eq_grow, grow_grow, grow_grow]⟩
  go_enter Try.func27, Try.ntmps27
  go_wp2_with fail
  refine (compareVals ⟨k1, n1, t1⟩ ⟨k2, n2, t2⟩ _).mono ?_
  rintro e w' ⟨rfl, os, rfl⟩
  go_wp2_with fail
  go_ret
  exact ⟨rfl, HG.out _ _ _⟩

end Go.Proofs.Ytimndhnbbmedbaa
