/-
  bits.OnesCount64's formula on a number below 2^31. No program in sight.
-/
import Derived.Test.YthobibjbpbnhnaaDoorSwar
namespace Go.Proofs.YthobibjbpbnhnaaDoor

def four (d3 d2 d1 d0 : Nat) : Nat := 256 * (256 * (256 * d3 + d2) + d1) + d0

theorem four_of (x : Nat) (hx : x < 4294967296) : x = four (x / 16777216 % 256) (x / 65536 % 256) (x / 256 % 256) (x % 256) := by
  unfold four
  omega

theorem swar1 {d3 d2 d1 d0 : Nat} (h3 : d3 < 256) (h2 : d2 < 256) (h1 : d1 < 256) (h0 : d0 < 256) :
    ((four d3 d2 d1 d0 / 2) &&& 6148914691236517205) + (four d3 d2 d1 d0 &&& 6148914691236517205) = four (b1 d3) (b1 d2) (b1 d1) (b1 d0) := by
  have e : (6148914691236517205 : Nat) = 256 * (256 * (256 * (256 * 1431655765 + 0x55) + 0x55) + 0x55) + 0x55 := by decide
  have hd : d3 = 256 * 0 + d3 := by omega
  unfold four
  rw [e, step1 h0, step1 h1, step1 h2]
  conv => lhs; rw [hd]
  rw [step1 h3]
  simp

theorem swar2 {d3 d2 d1 d0 : Nat} (h3 : d3 < 256) (h2 : d2 < 256) (h1 : d1 < 256) (h0 : d0 < 256) :
    ((four d3 d2 d1 d0 / 4) &&& 3689348814741910323) + (four d3 d2 d1 d0 &&& 3689348814741910323) = four (b2 d3) (b2 d2) (b2 d1) (b2 d0) := by
  have e : (3689348814741910323 : Nat) = 256 * (256 * (256 * (256 * 858993459 + 0x33) + 0x33) + 0x33) + 0x33 := by decide
  have hd : d3 = 256 * 0 + d3 := by omega
  unfold four
  rw [e, step2 h0, step2 h1, step2 h2]
  conv => lhs; rw [hd]
  rw [step2 h3]
  simp

theorem swar3 {d3 d2 d1 d0 : Nat} (h3 : d3 < 256) (h2 : d2 < 256) (h1 : d1 < 256) (h0 : d0 < 256) (g3 : d3 % 16 ≤ 4 ∧ d3 / 16 ≤ 4) (g2 : d2 % 16 ≤ 4 ∧ d2 / 16 ≤ 4) (g1 : d1 % 16 ≤ 4 ∧ d1 / 16 ≤ 4) (g0 : d0 % 16 ≤ 4 ∧ d0 / 16 ≤ 4) :
    (four d3 d2 d1 d0 / 16 + four d3 d2 d1 d0) &&& 1085102592571150095 = four (b3 d3) (b3 d2) (b3 d1) (b3 d0) := by
  have e : (1085102592571150095 : Nat) = 256 * (256 * (256 * (256 * 252645135 + 0x0f) + 0x0f) + 0x0f) + 0x0f := by decide
  have hd : d3 = 256 * 0 + d3 := by omega
  unfold four
  rw [e, step3 h0 g0.1 g0.2 _ _ (by omega), step3 h1 g1.1 g1.2 _ _ (by omega), step3 h2 g2.1 g2.2 _ _ (by omega)]
  conv => lhs; rw [hd]
  rw [step3 h3 g3.1 g3.2 _ _ (by omega)]
  simp

end Go.Proofs.YthobibjbpbnhnaaDoor
