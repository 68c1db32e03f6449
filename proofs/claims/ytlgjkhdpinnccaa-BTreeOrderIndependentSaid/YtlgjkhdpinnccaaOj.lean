/-
  The walk of slices.Clone over ints (turned from XChk).
-/
import Derived.Test.YtlgjkhdpinnccaaBl
import Derived.Lib.SliceRun
namespace Go.Proofs.Ytlgjkhdpinnccaa
open Go.RowKit Go.Sort

set_option maxRecDepth 100000 in
set_option maxHeartbeats 400000 in
theorem clone_ints {α : Type} {cs : α → List Value} (L : Lay 1 cs) (A : Option Addr) (n c : Nat) (xs : List α) (w : World) (S : Nat → Prop) (hx : Elems 1 cs w S A xs) (hS : ∀ k, S k → k < w.heap.size) (hn : n = xs.length) (hs : xs.length ≤ 100000) :
    Calls Try.prog 15 #[.slice A n c] w fun e w' => ∃ v, e = .returned v ∧ Own 1 cs 3 w.heap.size w' v xs ∧ Below w.heap.size w w' := by
  have hnil := fun W => Lib.run_eql_slice_nil (P := Try.prog) W 22 3 A n c 0 0 Try.underlying22
  cases A with
  | none =>
    have h0 : xs = [] := by
      rcases Nat.eq_zero_or_pos xs.length with h | h
      · exact List.eq_nil_of_length_eq_zero h
      · obtain ⟨_, _, h', _⟩ := hx h; cases h'
    subst h0
    simp only [Option.isNone_none, List.length_nil] at hnil hn
    subst hn
    go_enter Try.func15, Try.ntmps15
    go_wp2_with fail
    go_ret
    exact ⟨_, rfl, Own.nil _, Below.refl _ _⟩
  | some a =>
    simp only [Option.isNone_some] at hnil
    have HX := Lib.hid (hx.keep (w' := w.alloc (.cells #[] 3)) fun k hk => Below.heap_alloc _ _ _ (hS k hk))
    have hB : w.heap.size ≤ (w.alloc (.cells #[] 3)).heap.size := by simp
    have H1 : Hid ((([] : List α).length + xs.length) * 8 ≤ 140737488355328) := Lib.hid (by simp; omega)
    have H2 : Hid (([] : List α).length + xs.length ≤ maxLen) := Lib.hid (by unfold maxLen; simp; omega)
    have HN := Lib.hid hn
    clear hx hs hn
    go_enter Try.func15, Try.ntmps15
    go_wp2_with (at_builtin; refine wpList_app rfl (.tmp 5) (.tmp 6) _ _ rfl rfl rfl (run_pushs elem_ints L _ (w.alloc (.cells #[] 3)) _ ([] : List α) (Own.lit0 w) HX.out HN.out H1.out H2.out hB) ?_; rintro v1 w1 ⟨ho1, hx1⟩)
    go_ret
    exact ⟨_, rfl, by simpa using ho1, ((Below.refl _ _).alloc (Nat.le_refl _) _).trans (hx1.below (base := w.heap.size) (by simp) (fun g hg => Nat.le_of_eq (Option.some.inj hg)))⟩
end Go.Proofs.Ytlgjkhdpinnccaa
