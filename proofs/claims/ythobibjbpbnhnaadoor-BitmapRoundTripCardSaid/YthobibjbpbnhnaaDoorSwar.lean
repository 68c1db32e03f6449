/-
  Counting bits by bytes (bits.OnesCount64's way). No program in sight.
-/
import Derived.Test.YthobibjbpbnhnaaDoorPop
namespace Go.Proofs.YthobibjbpbnhnaaDoor

theorem and_byte {b c : Nat} (hb : b < 256) (hc : c < 256) (y m : Nat) : (256 * y + b) &&& (256 * m + c) = 256 * (y &&& m) + (b &&& c) := by
  have hbc : (b &&& c) < 2 ^ 8 := Nat.and_lt_two_pow _ (by omega)
  apply Nat.eq_of_testBit_eq
  intro j
  have h256 : (256 : Nat) = 2 ^ 8 := by decide
  rw [h256, Nat.testBit_and, Nat.testBit_two_pow_mul_add _ (by omega), Nat.testBit_two_pow_mul_add _ (by omega), Nat.testBit_two_pow_mul_add _ hbc]
  split
  · rw [Nat.testBit_and]
  · rw [Nat.testBit_and]

theorem low1 : ∀ b : Fin 256, ∀ q : Fin 2, (128 * q.val + b.val / 2) &&& 0x55 = (b.val / 2) &&& 0x55 := by decide +kernel
theorem low2 : ∀ b : Fin 256, ∀ q : Fin 4, (64 * q.val + b.val / 4) &&& 0x33 = (b.val / 4) &&& 0x33 := by decide +kernel
def b1 (b : Nat) : Nat := ((b / 2) &&& 0x55) + (b &&& 0x55)
def b2 (b : Nat) : Nat := ((b / 4) &&& 0x33) + (b &&& 0x33)
def b3 (b : Nat) : Nat := (b / 16 + b) &&& 0x0f
theorem bytes_ok : ∀ b : Fin 256, b1 b.val < 256 ∧ b2 (b1 b.val) % 16 ≤ 4 ∧ b2 (b1 b.val) / 16 ≤ 4 ∧ b3 (b2 (b1 b.val)) = pc 8 b.val ∧ pc 8 b.val ≤ 8 := by decide +kernel

theorem step1 {b : Nat} (hb : b < 256) (y m : Nat) : (((256 * y + b) / 2) &&& (256 * m + 0x55)) + ((256 * y + b) &&& (256 * m + 0x55)) = 256 * (((y / 2) &&& m) + (y &&& m)) + b1 b := by
  have e : (256 * y + b) / 2 = 256 * (y / 2) + (128 * (y % 2) + b / 2) := by omega
  have hl := low1 ⟨b, hb⟩ ⟨y % 2, by omega⟩
  simp only at hl
  rw [e, and_byte (by omega) (by omega), and_byte hb (by omega), hl]
  unfold b1
  omega
theorem step2 {b : Nat} (hb : b < 256) (y m : Nat) : (((256 * y + b) / 4) &&& (256 * m + 0x33)) + ((256 * y + b) &&& (256 * m + 0x33)) = 256 * (((y / 4) &&& m) + (y &&& m)) + b2 b := by
  have e : (256 * y + b) / 4 = 256 * (y / 4) + (64 * (y % 4) + b / 4) := by omega
  have hl := low2 ⟨b, hb⟩ ⟨y % 4, by omega⟩
  simp only at hl
  rw [e, and_byte (by omega) (by omega), and_byte hb (by omega), hl]
  unfold b2
  omega

theorem low3 : ∀ b : Fin 256, ∀ q : Fin 5, b.val % 16 ≤ 4 → b.val / 16 ≤ 4 → 16 * q.val + b.val / 16 + b.val < 256 ∧ (16 * q.val + b.val / 16 + b.val) &&& 0x0f = (b.val / 16 + b.val) &&& 0x0f := by decide +kernel
theorem step3 {b : Nat} (hb : b < 256) (h1 : b % 16 ≤ 4) (h2 : b / 16 ≤ 4) (y m : Nat) (hy : y % 16 ≤ 4) : ((256 * y + b) / 16 + (256 * y + b)) &&& (256 * m + 0x0f) = 256 * ((y / 16 + y) &&& m) + b3 b := by
  have e : (256 * y + b) / 16 + (256 * y + b) = 256 * (y / 16 + y) + (16 * (y % 16) + b / 16 + b) := by omega
  obtain ⟨hl, hm⟩ := low3 ⟨b, hb⟩ ⟨y % 16, by omega⟩ h1 h2
  simp only at hl hm
  rw [e, and_byte hl (by omega), hm]
  rfl

theorem pc_add : ∀ (f k x : Nat), pc (f + k) x = pc f (x % 2 ^ f) + pc k (x / 2 ^ f)
  | 0, k, x => by simp [pc]
  | f + 1, k, x => by
    rw [show f + 1 + k = (f + k) + 1 by omega]
    simp only [pc]
    rw [pc_add f k (x / 2), Nat.div_div_eq_div_mul, ← Nat.pow_succ']
    have h1 : x % 2 ^ (f + 1) % 2 = x % 2 := by
      rw [Nat.pow_succ']
      exact Nat.mod_mul_right_mod x 2 (2 ^ f)
    have h2 : x % 2 ^ (f + 1) / 2 = x / 2 % 2 ^ f := by
      rw [Nat.pow_succ']
      exact Nat.mod_mul_right_div_self x 2 (2 ^ f)
    rw [h1, h2, Nat.add_assoc]

/-- The count of 31 bits, by four bytes. -/
theorem pc_bytes {x : Nat} (hx : x < 2147483648) : pc 31 x = pc 8 (x % 256) + (pc 8 (x / 256 % 256) + (pc 8 (x / 65536 % 256) + pc 8 (x / 16777216 % 256))) := by
  have h0 : pc 31 x = pc 32 x := by
    rw [show (32 : Nat) = 31 + 1 from rfl, pc_add 31 1 x]
    have e1 : x % 2 ^ 31 = x := Nat.mod_eq_of_lt (by omega)
    have e2 : x / 2 ^ 31 = 0 := Nat.div_eq_of_lt (by omega)
    rw [e1, e2, pc_zero]
    omega
  rw [h0, show (32 : Nat) = 8 + (8 + (8 + 8)) from rfl, pc_add 8 _ x, pc_add 8 _ (x / 2 ^ 8), pc_add 8 8 (x / 2 ^ 8 / 2 ^ 8)]
  have e1 : x / 2 ^ 8 % 2 ^ 8 = x / 256 % 256 := rfl
  have e2 : x / 2 ^ 8 / 2 ^ 8 % 2 ^ 8 = x / 65536 % 256 := by omega
  have e3 : x / 2 ^ 8 / 2 ^ 8 / 2 ^ 8 = x / 16777216 % 256 := by omega
  rw [e1, e2, e3]

end Go.Proofs.YthobibjbpbnhnaaDoor
