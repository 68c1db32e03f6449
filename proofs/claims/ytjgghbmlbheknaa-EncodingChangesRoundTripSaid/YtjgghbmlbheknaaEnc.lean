/-
  The encoding of rows as plain functions on lists of bytes. No program in sight.
-/
import Derived.Test.YtjgghbmlbheknaaVal
import Derived.Test.YtjgghbmlbheknaaOwn
namespace Go.Proofs.Ytjgghbmlbheknaa

/-- The unsigned varint of n. -/
def encU (n : Nat) : List UInt8 := if n < 128 then [UInt8.ofNat n] else UInt8.ofNat (n % 128 + 128) :: encU (n / 128)
termination_by n
decreasing_by omega

theorem encU_lo {n : Nat} (h : n < 128) : encU n = [UInt8.ofNat n] := by rw [encU, if_pos h]
theorem encU_hi {n : Nat} (h : 128 ≤ n) : encU n = UInt8.ofNat (n % 128 + 128) :: encU (n / 128) := by rw [encU, if_neg (by omega)]

theorem encU_len : ∀ (f n : Nat), n < 128 ^ (f + 1) → (encU n).length ≤ f + 1
  | f, n, h => by
    by_cases hn : n < 128
    · rw [encU_lo hn]; simp
    · cases f with
      | zero => simp at h; omega
      | succ f =>
        rw [encU_hi (by omega)]
        have := encU_len f (n / 128) (by rw [Nat.pow_succ] at h; omega)
        simp
        omega
theorem encU_len10 {n : Nat} (h : IsU64 n) : (encU n).length ≤ 10 := encU_len 9 n (by unfold IsU64 at h; omega)
theorem encU_pos (n : Nat) : 0 < (encU n).length := by
  by_cases hn : n < 128
  · rw [encU_lo hn]; simp
  · rw [encU_hi (by omega)]; simp

/-- The zigzag form. -/
def zig (i : Int) : Nat := if 0 ≤ i then (2 * i).toNat else (-2 * i - 1).toNat

/-- What follows the kind's byte. -/
def encP (v : Val) : List UInt8 :=
  if v.kind = 1 then encU (zig v.int) else if v.kind = 2 then [UInt8.ofNat v.int.toNat] else if v.kind = 3 then UInt8.ofNat v.text.size :: v.text.data.toList else []
def encV (v : Val) : List UInt8 := UInt8.ofNat v.kind.toNat :: encP v
def encR (r : List Val) : List UInt8 := UInt8.ofNat r.length :: r.flatMap encV

/-- What a valid value is. -/
theorem valid_cases {v : Val} (h : v.err = 0) :
    (v.kind = 0 ∧ v.int = 0 ∧ v.text.toList.isEmpty = true) ∨ (v.kind = 1 ∧ -1000000000000 ≤ v.int ∧ v.int ≤ 1000000000000 ∧ v.text.toList.isEmpty = true) ∨
    (v.kind = 2 ∧ (v.int = 0 ∨ v.int = 1) ∧ v.text.toList.isEmpty = true) ∨ (v.kind = 3 ∧ v.int = 0 ∧ v.text.size ≤ 24) := by
  unfold Val.err vErr at h
  by_cases h0 : v.kind = 0
  · rw [if_pos h0] at h
    left
    by_cases hc : v.int = 0 ∧ v.text.toList.isEmpty = true
    · exact ⟨h0, hc.1, hc.2⟩
    · rw [if_neg hc] at h; omega
  rw [if_neg h0] at h
  by_cases h12 : v.kind = 1 ∨ v.kind = 2
  · rw [if_pos h12] at h
    by_cases he : v.text.toList.isEmpty = false
    · rw [if_pos he] at h; omega
    · rw [if_neg he] at h
      have he' : v.text.toList.isEmpty = true := by simpa using he
      by_cases hc : (v.kind = 2 ∧ v.int ≠ 0 ∧ v.int ≠ 1) ∨ v.int < -1000000000000 ∨ 1000000000000 < v.int
      · rw [if_pos hc] at h; omega
      · right
        rcases h12 with h1 | h2
        · left; exact ⟨h1, by omega, by omega, he'⟩
        · right; left; exact ⟨h2, by omega, he'⟩
  rw [if_neg h12] at h
  by_cases h3 : v.kind = 3
  · rw [if_pos h3] at h
    by_cases hn : v.int ≠ 0
    · rw [if_pos hn] at h; omega
    · rw [if_neg hn] at h
      by_cases hs : 24 < v.text.size
      · rw [if_pos hs] at h; omega
      · right; right; right; exact ⟨h3, by omega, by omega⟩
  · rw [if_neg h3] at h; omega

theorem zig_u64 {i : Int} (h1 : -1000000000000 ≤ i) (h2 : i ≤ 1000000000000) : IsU64 (zig i) := by
  unfold IsU64 zig
  split <;> omega

theorem xor_ones (a : Nat) (h : a < 18446744073709551616) : a ^^^ 18446744073709551615 = 18446744073709551615 - a := by
  have h1 : (BitVec.ofNat 64 a ^^^ BitVec.allOnes 64).toNat = 18446744073709551615 - a := by
    rw [BitVec.xor_allOnes, BitVec.toNat_not, BitVec.toNat_ofNat]
    omega
  rw [BitVec.toNat_xor, BitVec.toNat_ofNat, BitVec.toNat_allOnes, Nat.mod_eq_of_lt h] at h1
  exact h1

/-- What the code computes is the zigzag form. -/
theorem zig_walk (n : Int) (h1 : -1000000000000 ≤ n) (h2 : n ≤ 1000000000000) :
    bits .xor .u64 (IntKind.u64.wrap (IntKind.u64.wrap n * 2)) (IntKind.u64.wrap (n / 9223372036854775808)) = (zig n : Int) := by
  by_cases h0 : 0 ≤ n
  · have e1 : IntKind.u64.wrap (IntKind.u64.wrap n * 2) = ((2 * n).toNat : Int) := by simp only [IntKind.wrap_u64]; omega
    have e2 : IntKind.u64.wrap (n / 9223372036854775808) = ((0 : Nat) : Int) := by simp only [IntKind.wrap_u64]; omega
    rw [e1, e2, u64_xor_nat _ _ (by omega) (by omega), Nat.xor_zero]
    unfold zig
    rw [if_pos h0]
  · have e1 : IntKind.u64.wrap (IntKind.u64.wrap n * 2) = ((18446744073709551616 + 2 * n).toNat : Int) := by simp only [IntKind.wrap_u64]; omega
    have e2 : IntKind.u64.wrap (n / 9223372036854775808) = ((18446744073709551615 : Nat) : Int) := by simp only [IntKind.wrap_u64]; omega
    rw [e1, e2, u64_xor_nat _ _ (by omega) (by omega), xor_ones _ (by omega)]
    unfold zig
    rw [if_neg h0]
    omega

theorem encV_len {v : Val} (h : v.err = 0) : (encV v).length ≤ 26 := by
  rcases valid_cases h with ⟨hk, _⟩ | ⟨hk, h1, h2, _⟩ | ⟨hk, _⟩ | ⟨hk, _, hs⟩
  · simp [encV, encP, hk]
  · have := encU_len10 (zig_u64 h1 h2)
    simp [encV, encP, hk]; omega
  · simp [encV, encP, hk]
  · simp only [encV, encP, hk]
    simp
    have : v.text.data.size = v.text.size := rfl
    omega

theorem encVs_len {r : List Val} (h : ∀ v ∈ r, v.err = 0) : (r.flatMap encV).length ≤ 26 * r.length := by
  induction r with
  | nil => simp
  | cons v r ih =>
    have h1 := encV_len (h v (by simp))
    have h2 := ih fun x hx => h x (by simp [hx])
    rw [List.flatMap_cons, List.length_append, List.length_cons]
    omega

theorem encR_len {r : List Val} (h : rErr r = 0) : (encR r).length ≤ 313 := by
  obtain ⟨h1, h2⟩ := rErr_zero h
  have := encVs_len h2
  rw [encR, List.length_cons]
  omega

end Go.Proofs.Ytjgghbmlbheknaa
