/-
  The keys of a tree do not depend on the order of insertion, plain. No program's walk.
-/
import Derived.Test.YtlgjkhdpinnccaaBr
namespace Go.Proofs.Ytlgjkhdpinnccaa
open Go.RowKit Go.Sort

theorem rows_ext : ∀ {xs ys : List Row}, xs.Pairwise rl → ys.Pairwise rl → (∀ k, k ∈ xs ↔ k ∈ ys) → xs = ys
  | [], [], _, _, _ => rfl
  | [], y :: ys, _, _, h => absurd ((h y).2 List.mem_cons_self) (by simp)
  | x :: xs, [], _, _, h => absurd ((h x).1 List.mem_cons_self) (by simp)
  | x :: xs, y :: ys, hx, hy, h => by
    obtain ⟨x1, x2⟩ := List.pairwise_cons.1 hx
    obtain ⟨y1, y2⟩ := List.pairwise_cons.1 hy
    have hxy : x = y := by
      rcases List.mem_cons.1 ((h x).1 List.mem_cons_self) with e | h1
      · exact e
      · rcases List.mem_cons.1 ((h y).2 List.mem_cons_self) with e | h2
        · exact e.symm
        · exact absurd (y1 x h1) (rl_asymm (x1 y h2))
    subst hxy
    rw [rows_ext x2 y2 fun k => ⟨fun hk => ?_, fun hk => ?_⟩]
    · rcases List.mem_cons.1 ((h k).1 (List.mem_cons_of_mem _ hk)) with e | h1
      · exact absurd (e ▸ x1 k hk) (rl_irrefl _)
      · exact h1
    · rcases List.mem_cons.1 ((h k).2 (List.mem_cons_of_mem _ hk)) with e | h1
      · exact absurd (e ▸ y1 k hk) (rl_irrefl _)
      · exact h1

theorem bld_mem (xs : List Int) : ∀ (i : Nat) (p : PE), p ∈ bld xs i → ∃ j, j < i ∧ p.1 = rowOf (xs.getD j 0)
  | 0, _, h => by cases h
  | i + 1, p, h => by
    rcases mem_insP (show p ∈ insP _ _ from h) with h | ⟨x, hx, h⟩
    · exact ⟨i, Nat.lt_succ_self _, h⟩
    · obtain ⟨j, hj, hk⟩ := bld_mem xs i x hx
      exact ⟨j, Nat.lt_succ_of_lt hj, by rw [← h, hk]⟩
theorem bld_set (xs : List Int) (k : Row) : k ∈ (bld xs xs.length).map Prod.fst ↔ ∃ x ∈ xs, k = rowOf x := by
  constructor
  · intro h
    obtain ⟨p, hp, rfl⟩ := List.mem_map.1 h
    obtain ⟨j, hj, e⟩ := bld_mem xs _ p hp
    refine ⟨xs[j], List.getElem_mem hj, ?_⟩
    rw [e, List.getD_eq_getElem?_getD, List.getElem?_eq_getElem hj]
    rfl
  · rintro ⟨x, hx, rfl⟩
    obtain ⟨j, hj, e⟩ := List.getElem_of_mem hx
    have := key_bld xs xs.length j hj
    rw [List.getD_eq_getElem?_getD, List.getElem?_eq_getElem hj] at this
    rw [← e]
    exact this
theorem bld_rev (ys : List Int) (h1 : OrdP (bld ([3] ++ ys) ([3] ++ ys).length)) (h2 : OrdP (bld (ys.reverse ++ [3]) (ys.reverse ++ [3]).length)) :
    (bld ([3] ++ ys) ([3] ++ ys).length).map Prod.fst = (bld (ys.reverse ++ [3]) (ys.reverse ++ [3]).length).map Prod.fst := by
  refine rows_ext (List.pairwise_map.2 h1) (List.pairwise_map.2 h2) fun k => ?_
  rw [bld_set, bld_set]
  constructor
  · rintro ⟨x, hx, e⟩
    refine ⟨x, ?_, e⟩
    simp at hx ⊢
    exact hx.symm
  · rintro ⟨x, hx, e⟩
    refine ⟨x, ?_, e⟩
    simp at hx ⊢
    exact hx.symm
/-- The part of a reversed slice behind its head. -/
theorem rev_drop (xs : List Int) : (xs.take (min xs.length 200)).reverse.drop (min xs.length 200 - 199) = (xs.take (min xs.length 199)).reverse := by
  rw [List.drop_reverse, List.take_take, List.length_take]
  have e : min (min xs.length 200 - (min xs.length 200 - 199)) (min xs.length 200) = min xs.length 199 := by omega
  have e2 : min (min (min xs.length 200) xs.length - (min xs.length 200 - 199)) (min xs.length 200) = min xs.length 199 := by omega
  first | rw [e] | rw [e2]
end Go.Proofs.Ytlgjkhdpinnccaa
