/-
  The walks of bitmap.Check, slices.Clone, slices.Equal over ints.
-/
import Derived.Test.YthobibjbpbnhnaaDoorExp
import Derived.Lib.SliceRun
namespace Go.Proofs.YthobibjbpbnhnaaDoor
open Go.RowKit

set_option maxRecDepth 100000 in
set_option maxHeartbeats 400000 in
theorem checkB (n : Nat) (A : Option Addr) (c : Nat) (gs : List Nat) (w : World) (hx : Elems 1 intCs w (· < w.heap.size) A (comp gs)) (hG : Good n gs) (hn : n ≤ 100000) (hn1 : 1 ≤ n) :
    Calls Tryd.prog 10 #[.agg #[.int .i64 n, .slice A (comp gs).length c]] w fun e w' => e = .returned (.int .i64 0) ∧ Below w.heap.size w w' := by
  have hx1 := (hx.keep (w' := w.alloc (.cells #[.int .i64 n, .slice A (comp gs).length c] 25)) fun k hk => Below.heap_alloc _ _ _ hk).more (S' := (· < (w.alloc (.cells #[.int .i64 n, .slice A (comp gs).length c] 25)).heap.size)) fun k hk => Nat.lt_of_lt_of_le hk (le_size1 (Nat.le_refl _) _)
  have HX := Lib.hid (expand n A c gs _ hx1 hG hn hn1)
  clear hx hx1 hG
  go_enter Tryd.func10, Tryd.ntmps10
  go_wp2_with fail
  refine HX.out.mono ?_
  rintro e w1 ⟨v, rfl, ho, hb⟩
  go_wp2_with fail
  go_ret
  exact ⟨rfl, ((Below.refl _ _).alloc (Nat.le_refl _) _).trans (hb.mono (le_size1 (Nat.le_refl _) _))⟩

set_option maxRecDepth 100000 in
set_option maxHeartbeats 400000 in
theorem clone_ints {α : Type} {cs : α → List Value} (L : Lay 1 cs) (A : Option Addr) (n c : Nat) (xs : List α) (w : World) (S : Nat → Prop) (hx : Elems 1 cs w S A xs) (hS : ∀ k, S k → k < w.heap.size) (hn : n = xs.length) (hs : xs.length ≤ 100000) :
    Calls Tryd.prog 4 #[.slice A n c] w fun e w' => ∃ v, e = .returned v ∧ Own 1 cs 3 w.heap.size w' v xs ∧ Below w.heap.size w w' := by
  have hnil := fun W => Lib.run_eql_slice_nil (P := Tryd.prog) W 22 3 A n c 0 0 Tryd.underlying22
  cases A with
  | none =>
    have h0 : xs = [] := by
      rcases Nat.eq_zero_or_pos xs.length with h | h
      · exact List.eq_nil_of_length_eq_zero h
      · obtain ⟨_, _, h', _⟩ := hx h; cases h'
    subst h0
    simp only [Option.isNone_none, List.length_nil] at hnil hn
    subst hn
    go_enter Tryd.func4, Tryd.ntmps4
    go_wp2_with fail
    go_ret
    exact ⟨_, rfl, Own.nil _, Below.refl _ _⟩
  | some a =>
    simp only [Option.isNone_some] at hnil
    have HX := Lib.hid (hx.keep (w' := w.alloc (.cells #[] 3)) fun k hk => Below.heap_alloc _ _ _ (hS k hk))
    have hB : w.heap.size ≤ (w.alloc (.cells #[] 3)).heap.size := by simp
    have H1 : Hid ((([] : List α).length + xs.length) * 8 ≤ 140737488355328) := Lib.hid (by simp; omega)
    have H2 : Hid (([] : List α).length + xs.length ≤ maxLen) := Lib.hid (by unfold maxLen; simp; omega)
    have HN := Lib.hid hn
    clear hx hs hn
    go_enter Tryd.func4, Tryd.ntmps4
    go_wp2_with (at_builtin; refine wpList_app rfl (.tmp 5) (.tmp 6) _ _ rfl rfl rfl (run_pushs elem_ints L _ (w.alloc (.cells #[] 3)) _ ([] : List α) (Own.lit0 w) HX.out HN.out H1.out H2.out hB) ?_; rintro v1 w1 ⟨ho1, hx1⟩)
    go_ret
    exact ⟨_, rfl, by simpa using ho1, ((Below.refl _ _).alloc (Nat.le_refl _) _).trans (hx1.below (base := w.heap.size) (by simp) (fun g hg => Nat.le_of_eq (Option.some.inj hg)))⟩

set_option maxRecDepth 100000 in
set_option maxHeartbeats 400000 in
/-- Equal slices are found equal. -/
theorem intsEqual (A B : Option Addr) (c d : Nat) (xs : List Int) (w : World) (S T : Nat → Prop) (hx : Elems 1 intCs w S A xs) (hy : Elems 1 intCs w T B xs) (hl : xs.length ≤ 1000000) :
    Calls Tryd.prog 9 #[.slice A xs.length c, .slice B xs.length d] w fun e w' => e = .returned (.bool true) ∧ ∃ n, w' = w.drewN n := by
  go_enter Tryd.func9, Tryd.ntmps9
  go_wp2_with fail
  go_loopw [13] (fun i wr => ∃ k n : Nat, k ≤ xs.length ∧ i = .int .i64 k ∧ wr = w.drewN n) (fun i _ => xs.length - (intOf i).toNat)
  case atStart => exact ⟨0, 0, by omega, rfl, rfl⟩
  case round =>
    obtain ⟨k, n, hk, rfl, rfl⟩ := hrel
    by_cases hlt : k < xs.length
    · obtain ⟨b, off, rfl, _, c0⟩ := hx.int hlt
      obtain ⟨b', off', rfl, _, d0⟩ := hy.int hlt
      have hi1 : (k : Int) < (xs.length : Int) := by omega
      have hi0 : (0 : Int) ≤ (k : Int) := by omega
      generalize xs[k] = x at *
      go_wp2_with fail
      go_quiet (fail)
      go_wp2_with fail
      go_roundw
      case rel => exact ⟨k + 1, _, by omega, by go_num, rfl⟩
      case measure => simp [intOf]; omega
    · go_wp2_with fail
      go_ret
      exact ⟨rfl, _, rfl⟩

end Go.Proofs.YthobibjbpbnhnaaDoor
