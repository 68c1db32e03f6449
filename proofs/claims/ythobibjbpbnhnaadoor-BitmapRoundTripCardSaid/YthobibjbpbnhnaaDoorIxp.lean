/-
  The indices of a bitmap's groups. No program in sight.
-/
import Derived.Test.YthobibjbpbnhnaaDoorCnt
import Derived.Lib.TrailingZeros
namespace Go.Proofs.YthobibjbpbnhnaaDoor

theorem filter_none {p : Nat → Bool} : ∀ (n : Nat), (∀ j, j < n → p j = false) → (List.range n).filter p = []
  | 0, _ => rfl
  | n + 1, h => by
    rw [List.range_succ, List.filter_append, filter_none n fun j hj => h j (by omega), List.filter_cons, if_neg (by rw [h n (by omega)]; simp)]
    rfl
/-- The first that is held, and the others. -/
theorem filter_first {p : Nat → Bool} {t : Nat} (ht : p t = true) (hb : ∀ j, j < t → p j = false) : ∀ n, t < n → (List.range n).filter p = t :: (List.range n).filter fun j => p j && decide (j ≠ t)
  | 0, h => absurd h (Nat.not_lt_zero _)
  | n + 1, h => by
    rw [List.range_succ, List.filter_append, List.filter_append]
    by_cases e : t = n
    · subst e
      rw [filter_none t hb, filter_none t fun j hj => by rw [hb j hj]; rfl]
      simp [ht]
    · rw [filter_first ht hb n (by omega)]
      have h1 : (decide (n ≠ t)) = true := decide_eq_true (fun h => e h.symm)
      rw [List.filter_cons, List.filter_cons, h1, Bool.and_true]
      rfl

/-- x & (x-1) drops the lowest bit. -/
theorem drop_low : ∀ (k m j : Nat), ((2 ^ k * (2 * m + 1)) &&& (2 ^ k * (2 * m + 1) - 1)).testBit j = ((2 ^ k * (2 * m + 1)).testBit j && decide (j ≠ k))
  | 0, m, 0 => by simp
  | 0, m, j + 1 => by
    rw [Nat.testBit_and, Nat.testBit_succ, Nat.testBit_succ]
    have h1 : 2 ^ 0 * (2 * m + 1) / 2 = m := by omega
    have h2 : (2 ^ 0 * (2 * m + 1) - 1) / 2 = m := by omega
    rw [h1, h2]
    simp
  | k + 1, m, 0 => by
    rw [Nat.testBit_and]
    have h1 : (2 ^ (k + 1) * (2 * m + 1)).testBit 0 = false := by
      rw [Nat.testBit_zero]
      have : 2 ^ (k + 1) * (2 * m + 1) = 2 * (2 ^ k * (2 * m + 1)) := by rw [Nat.pow_succ, Nat.mul_comm (2 ^ k) 2, Nat.mul_assoc]
      rw [this]
      simp
    rw [h1]
    simp
  | k + 1, m, j + 1 => by
    have e : 2 ^ (k + 1) * (2 * m + 1) = 2 * (2 ^ k * (2 * m + 1)) := by rw [Nat.pow_succ, Nat.mul_comm (2 ^ k) 2, Nat.mul_assoc]
    have hp : 0 < 2 ^ k * (2 * m + 1) := Nat.mul_pos (Nat.two_pow_pos k) (by omega)
    rw [Nat.testBit_and, Nat.testBit_succ, Nat.testBit_succ, e]
    have h1 : 2 * (2 ^ k * (2 * m + 1)) / 2 = 2 ^ k * (2 * m + 1) := by omega
    have h2 : (2 * (2 ^ k * (2 * m + 1)) - 1) / 2 = 2 ^ k * (2 * m + 1) - 1 := by omega
    rw [h1, h2, ← Nat.testBit_and, drop_low k m j]
    congr 1
    simp

/-- The indices of group i. -/
def gIdx (i g : Nat) : List Nat := ((List.range 31).filter g.testBit).map (31 * i + ·)
theorem gIdx_zero (i : Nat) : gIdx i 0 = [] := by
  unfold gIdx
  rw [filter_none 31 fun j _ => Nat.zero_testBit j]
  rfl
theorem low_spec {g : Nat} (h0 : g ≠ 0) (h : g < 2147483648) : Lib.ctz 64 g < 31 ∧ ∀ i, gIdx i g = (31 * i + Lib.ctz 64 g) :: gIdx i (g &&& (g - 1)) := by
  obtain ⟨m, hm, hk⟩ := Lib.ctzFrom_spec 64 g (by omega) (by omega)
  have e : Lib.ctz 64 g = Lib.ctzFrom 64 g := by simp [Lib.ctz, h0]
  rw [e]
  generalize Lib.ctzFrom 64 g = k at *
  have hk31 : k < 31 := by
    apply Nat.lt_of_not_le
    intro hle
    have h1 : 2 ^ 31 ≤ 2 ^ k := Nat.pow_le_pow_right (by decide) hle
    have h2 : 2 ^ k ≤ 2 ^ k * (2 * m + 1) := Nat.le_mul_of_pos_right _ (by omega)
    omega
  have hb : ∀ j, (g &&& (g - 1)).testBit j = (g.testBit j && decide (j ≠ k)) := fun j => by rw [hm]; exact drop_low k m j
  have ht : g.testBit k = true := by rw [hm, Nat.mul_comm, Nat.testBit_mul_two_pow]; simp
  have hl : ∀ j, j < k → g.testBit j = false := fun j hj => by rw [hm, Nat.mul_comm, Nat.testBit_mul_two_pow]; simp; omega
  refine ⟨hk31, fun i => ?_⟩
  unfold gIdx
  rw [filter_first ht hl 31 hk31, List.map_cons]
  congr 2
  exact List.filter_congr fun j _ => (hb j).symm
theorem low_le (g : Nat) : g &&& (g - 1) ≤ g := Nat.and_le_left
theorem low_lt {g : Nat} (h : g ≠ 0) : g &&& (g - 1) < g := Nat.lt_of_le_of_lt Nat.and_le_right (by omega)
theorem gIdx_len (i g : Nat) : (gIdx i g).length ≤ 31 := by
  unfold gIdx
  rw [List.length_map]
  exact Nat.le_trans (List.length_filter_le _ _) (by simp)

/-- The indices of the first k groups. -/
def ixs (gs : List Nat) (k : Nat) : List Nat := (List.range k).flatMap fun i => gIdx i (gs.getD i 0)
theorem ixs_succ (gs : List Nat) (k : Nat) : ixs gs (k + 1) = ixs gs k ++ gIdx k (gs.getD k 0) := by
  unfold ixs
  rw [List.range_succ, List.flatMap_append]
  simp
theorem ixs_len (gs : List Nat) : ∀ k, (ixs gs k).length ≤ 31 * k
  | 0 => Nat.le_refl _
  | k + 1 => by
    rw [ixs_succ, List.length_append]
    have := ixs_len gs k
    have := gIdx_len k (gs.getD k 0)
    omega

theorem ixs_filter (gs : List Nat) (P : Nat → Bool) : ∀ k, (∀ i j, i < k → j < 31 → (gs.getD i 0).testBit j = P (31 * i + j)) → ixs gs k = (List.range (31 * k)).filter P
  | 0, _ => rfl
  | k + 1, h => by
    rw [ixs_succ, ixs_filter gs P k fun i j hi hj => h i j (by omega) hj, Nat.mul_succ, List.range_add, List.filter_append]
    congr 1
    rw [List.filter_map]
    unfold gIdx
    congr 1
    exact List.filter_congr fun j hj => h k j (by omega) (List.mem_range.1 hj)

theorem odd_out {xs : List Int} {p : Nat} (h : xs.length ≤ p) : odd (xs.getD p 0) = false := by
  rw [List.getD_eq_getElem?_getD, List.getElem?_eq_none h]
  rfl

/-- The indices of the groups of a list are the places of its odd numbers. -/
theorem ixs_bitG (xs : List Int) : ixs (bitG xs) (bitG xs).length = idx xs xs.length := by
  have hgl := (good_bitG xs).len
  rw [ixs_filter (bitG xs) (fun p => odd (xs.getD p 0)) _ ?_, hgl]
  · have hn : 31 * gc xs.length = xs.length + (31 * gc xs.length - xs.length) := by unfold gc; omega
    rw [hn, List.range_add, List.filter_append, List.filter_map]
    unfold idx
    rw [filter_none (31 * gc xs.length - xs.length) (p := (fun p => odd (xs.getD p 0)) ∘ fun x => xs.length + x) fun j _ => odd_out (Nat.le_add_right _ _), List.map_nil, List.append_nil]
  · intro i j hi hj
    have hi2 : i < gc xs.length := by omega
    rw [List.getD_eq_getElem?_getD, List.getElem?_eq_getElem hi]
    have h0 : (List.replicate (gc xs.length) 0)[i]? = some 0 := by rw [List.getElem?_replicate, if_pos hi2]
    have := bit_fold (idx xs xs.length) _ (good_zero xs.length) (idx_lt _ _) i 0 _ j h0 (List.getElem?_eq_getElem hi) hj
    refine this.trans ?_
    rw [Nat.zero_testBit, Bool.false_or]
    by_cases hlt : 31 * i + j < xs.length
    · unfold idx
      simp only [List.mem_filter, List.mem_range]
      simp [hlt]
    · have : odd (xs.getD (31 * i + j) 0) = false := odd_out (by omega)
      rw [this, decide_eq_false_iff_not]
      intro hm
      have := idx_lt xs xs.length _ hm
      omega

theorem pc_filter : ∀ (f x : Nat), pc f x = ((List.range f).filter x.testBit).length
  | 0, _ => rfl
  | f + 1, x => by
    rw [List.range_succ_eq_map, List.filter_cons, List.filter_map, pc, pc_filter f (x / 2)]
    have h1 : List.filter (x.testBit ∘ Nat.succ) (List.range f) = List.filter (x / 2).testBit (List.range f) := List.filter_congr fun j _ => Nat.testBit_succ x j
    rw [h1]
    by_cases hb : x.testBit 0 = true
    · rw [if_pos hb, List.length_cons, List.length_map]
      have : x % 2 = 1 := by simpa [Nat.testBit_zero] using hb
      omega
    · rw [if_neg hb, List.length_map]
      have : x % 2 ≠ 1 := by simpa [Nat.testBit_zero] using hb
      omega
theorem pc_gIdx (i g : Nat) : (gIdx i g).length = pc 31 g := by
  unfold gIdx
  rw [List.length_map, pc_filter]
theorem pcs_ixs : ∀ (gs : List Nat) (k : Nat), k ≤ gs.length → (ixs gs k).length = pcs (gs.take k)
  | gs, 0, _ => rfl
  | gs, k + 1, h => by
    rw [ixs_succ, List.length_append, pcs_ixs gs k (by omega), pc_gIdx, List.take_succ_eq_append_getElem (by omega), pcs_append, List.getD_eq_getElem?_getD, List.getElem?_eq_getElem (by omega)]
    rw [pcs_one]
    rfl
theorem pcs_all (xs : List Int) : pcs (bitG xs) = (idx xs xs.length).length := by
  rw [← ixs_bitG, pcs_ixs _ _ (Nat.le_refl _), List.take_length]

end Go.Proofs.YthobibjbpbnhnaaDoor
