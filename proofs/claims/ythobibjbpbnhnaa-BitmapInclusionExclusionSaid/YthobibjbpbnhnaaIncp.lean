/-
  Inclusion and exclusion on groups: the last bit is set in both. No program in sight.
-/
import Derived.Test.YthobibjbpbnhnaaDemw
import Derived.Test.YthobibjbpbnhnaaPop
namespace Go.Proofs.Ythobibjbpbnhnaa

theorem pc_pos : ∀ (f x j : Nat), j < f → x.testBit j = true → 0 < pc f x
  | 0, _, _, h, _ => absurd h (Nat.not_lt_zero _)
  | f + 1, x, 0, _, hb => by
    have : x % 2 = 1 := by simpa [Nat.testBit_zero] using hb
    simp only [pc]
    omega
  | f + 1, x, j + 1, h, hb => by
    rw [Nat.testBit_succ] at hb
    have := pc_pos f (x / 2) j (by omega) hb
    simp only [pc]
    omega

theorem sum_pos_ : ∀ (l : List Nat) (k q : Nat), l[k]? = some q → 0 < q → 0 < l.sum
  | [], _, _, h, _ => by simp at h
  | x :: l, 0, q, h, hp => by
    simp at h
    rw [List.sum_cons]
    omega
  | x :: l, k + 1, q, h, hp => by
    have := sum_pos_ l k q (by simpa using h) hp
    rw [List.sum_cons]
    omega
theorem pcs_pos (gs : List Nat) (k g : Nat) (h : gs[k]? = some g) (hp : 0 < pc 31 g) : 0 < pcs gs :=
  sum_pos_ _ k (pc 31 g) (by rw [List.getElem?_map, h]; rfl) hp

/-- The last bit of a list that ends with an odd number is set. -/
theorem last_bit (xs : List Int) (m : Nat) (h : m ≤ xs.length) (k j : Nat) (hk : 31 * k + j = m) (hj : j < 31) : ∃ g, (bitG (numsOf xs m 1))[k]? = some g ∧ g.testBit j = true := by
  have hlen := numsOf_len h 1
  have hm : m ∈ idx (numsOf xs m 1) (numsOf xs m 1).length := by
    unfold idx
    rw [List.mem_filter]
    refine ⟨List.mem_range.2 (by omega), ?_⟩
    unfold numsOf
    rw [List.getD_eq_getElem?_getD, List.getElem?_append_right (by rw [List.length_take]; omega)]
    have : m - (List.take m xs).length = 0 := by rw [List.length_take]; omega
    rw [this]
    rfl
  have hgl := (good_bitG (numsOf xs m 1)).len
  have hkl : k < gc (numsOf xs m 1).length := by rw [hlen]; unfold gc; omega
  have hk1 : k < (bitG (numsOf xs m 1)).length := by rw [hgl]; exact hkl
  refine ⟨_, List.getElem?_eq_getElem hk1, ?_⟩
  have h0 : (List.replicate (gc (numsOf xs m 1).length) 0)[k]? = some 0 := by rw [List.getElem?_replicate, if_pos hkl]
  have := bit_fold (idx (numsOf xs m 1) (numsOf xs m 1).length) _ (good_zero (numsOf xs m 1).length) (idx_lt _ _) k 0 _ j h0 (List.getElem?_eq_getElem hk1) hj
  rw [hk] at this
  exact this.trans (by simp [hm])

theorem both_pos (xs ys : List Int) (m : Nat) (hx : m ≤ xs.length) (hy : m ≤ ys.length) : 0 < pcs (zipOp (· &&& ·) (bitG (numsOf xs m 1)) (bitG (numsOf ys m 1))) := by
  obtain ⟨g, h1, h2⟩ := last_bit xs m hx (m / 31) (m % 31) (by omega) (by omega)
  obtain ⟨g', h3, h4⟩ := last_bit ys m hy (m / 31) (m % 31) (by omega) (by omega)
  have hz : (zipOp (· &&& ·) (bitG (numsOf xs m 1)) (bitG (numsOf ys m 1)))[m / 31]? = some (g &&& g') := by
    unfold zipOp
    rw [List.getElem?_zipWith, h1, h3]
  refine pcs_pos _ _ _ hz (pc_pos 31 _ (m % 31) (by omega) ?_)
  rw [Nat.testBit_and, h2, h4]
  rfl

end Go.Proofs.Ythobibjbpbnhnaa
