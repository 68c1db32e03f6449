/-
  slices.Clone over ints, columns and rows (turned from XTr, XOj).
-/
import Derived.Test.YtefifkleamiabaaYc
import Derived.Lib.SliceRun
namespace Go.Proofs.Ytefifkleamiabaa
open Go.RowKit Go.Sort

theorem elem_ints : ElemT Try.prog 56 3 1 8 := ⟨Try.underlying56, by
  have h : (Try.prog.info? 3).map (fun i => (i.zero, i.size, i.bytes)) = some (some (.int .i64 0), 1, 8) := by kernel_rfl
  obtain ⟨i0, hi, hz0, hz1, hz2⟩ := info_parts h
  exact ⟨i0, _, hi, hz0, hz1, hz2, rfl⟩, by omega⟩
theorem elem_cols : ElemT Try.prog 55 54 3 32 := ⟨Try.underlying55, by
  have h : (Try.prog.info? 54).map (fun i => (i.zero, i.size, i.bytes)) = some (some (.agg #[.string ByteArray.empty, .int .i64 0, .bool false]), 3, 32) := by kernel_rfl
  obtain ⟨i0, hi, hz0, hz1, hz2⟩ := info_parts h
  exact ⟨i0, _, hi, hz0, hz1, hz2, rfl⟩, by omega⟩

set_option maxRecDepth 100000 in
theorem cloneRow (A : Option Addr) (n c : Nat) (xs : List Val) (w : World) (S : Nat → Prop) (hx : Elems 3 Val.cs w S A xs) (hS : ∀ k, S k → k < w.heap.size) (hn : n = xs.length) (hs : xs.length ≤ 100000) :
    Calls Try.prog 25 #[.slice A n c] w fun e w' => ∃ v, e = .returned v ∧ Own 3 Val.cs 26 w.heap.size w' v xs ∧ Below w.heap.size w w' := by
  have hnil := fun W => Lib.run_eql_slice_nil (P := Try.prog) W 23 26 A n c 0 0 Try.underlying23
  cases A with
  | none =>
    have h0 : xs = [] := by
      rcases Nat.eq_zero_or_pos xs.length with h | h
      · exact List.eq_nil_of_length_eq_zero h
      · obtain ⟨_, _, h', _⟩ := hx h; cases h'
    subst h0
    simp only [Option.isNone_none, List.length_nil] at hnil hn
    subst hn
    go_enter Try.func25, Try.ntmps25
    go_wp2_with fail
    go_ret
    exact ⟨_, rfl, Own.nil _, Below.refl _ _⟩
  | some a =>
    simp only [Option.isNone_some] at hnil
    have HX := Lib.hid (hx.keep (w' := w.alloc (.cells #[] 26)) fun k hk => Below.heap_alloc _ _ _ (hS k hk))
    have hB : w.heap.size ≤ (w.alloc (.cells #[] 26)).heap.size := by simp
    have H1 : Hid ((([] : List Val).length + xs.length) * 32 ≤ 140737488355328) := Lib.hid (by simp; omega)
    have H2 : Hid (([] : List Val).length + xs.length ≤ maxLen) := Lib.hid (by unfold maxLen; simp; omega)
    have HN := Lib.hid hn
    clear hx hs hn
    go_enter Try.func25, Try.ntmps25
    go_wp2_with (at_builtin; refine wpList_app rfl (.tmp 5) (.tmp 6) _ _ rfl rfl rfl (run_pushs elem_val valLay _ (w.alloc (.cells #[] 26)) _ ([] : List Val) (Own.lit0 w) HX.out HN.out H1.out H2.out hB) ?_; rintro v1 w1 ⟨ho1, hx1⟩)
    go_ret
    exact ⟨_, rfl, by simpa using ho1, ((Below.refl _ _).alloc (Nat.le_refl _) _).trans (hx1.below (base := w.heap.size) (by simp) (fun g hg => Nat.le_of_eq (Option.some.inj hg)))⟩

end Go.Proofs.Ytefifkleamiabaa
