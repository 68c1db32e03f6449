/-
  bits.OnesCount64 on a number below 2^31: the whole formula. No program in sight.
-/
import Derived.Test.YthobibjbpbnhnaaDoorSwar2
namespace Go.Proofs.YthobibjbpbnhnaaDoor

def s1 (x : Nat) : Nat := ((x / 2) &&& 6148914691236517205) + (x &&& 6148914691236517205)
def s2 (x : Nat) : Nat := ((x / 4) &&& 3689348814741910323) + (x &&& 3689348814741910323)
def s3 (x : Nat) : Nat := (x / 16 + x) &&& 1085102592571150095
def s4 (x : Nat) : Nat := x + x / 256
def s5 (x : Nat) : Nat := x + x / 65536
def s6 (x : Nat) : Nat := x + x / 4294967296

theorem swar_sum {c3 c2 c1 c0 : Nat} (h3 : c3 ≤ 8) (h2 : c2 ≤ 8) (h1 : c1 ≤ 8) (h0 : c0 ≤ 8) : s6 (s5 (s4 (four c3 c2 c1 c0))) % 128 = c0 + (c1 + (c2 + c3)) := by
  have e0 : four c3 c2 c1 c0 = 16777216 * c3 + 65536 * c2 + 256 * c1 + c0 := by unfold four; omega
  have e1 : four c3 c2 c1 c0 / 256 = 65536 * c3 + 256 * c2 + c1 := by rw [e0]; omega
  have e2 : s4 (four c3 c2 c1 c0) = 16777216 * c3 + 65536 * (c3 + c2) + 256 * (c2 + c1) + (c1 + c0) := by unfold s4; rw [e1, e0]; omega
  have e3 : s4 (four c3 c2 c1 c0) / 65536 = 256 * c3 + (c3 + c2) := by rw [e2]; omega
  have e4 : s5 (s4 (four c3 c2 c1 c0)) = 16777216 * c3 + 65536 * (c3 + c2) + 256 * (c2 + c1) + 256 * c3 + (c1 + c0 + c3 + c2) := by unfold s5; rw [e3, e2]; omega
  have e5 : s5 (s4 (four c3 c2 c1 c0)) / 4294967296 = 0 := by rw [e4]; omega
  unfold s6
  rw [e5, e4]
  omega

theorem swar (x : Nat) (hx : x < 2147483648) : s6 (s5 (s4 (s3 (s2 (s1 x))))) % 128 = pc 31 x := by
  have k0 := bytes_ok ⟨x % 256, by omega⟩
  have k1 := bytes_ok ⟨x / 256 % 256, by omega⟩
  have k2 := bytes_ok ⟨x / 65536 % 256, by omega⟩
  have k3 := bytes_ok ⟨x / 16777216 % 256, by omega⟩
  have hf := four_of x (by omega)
  rw [pc_bytes hx]
  simp only at k0 k1 k2 k3
  have l0 : x % 256 < 256 := by omega
  have l1 : x / 256 % 256 < 256 := by omega
  have l2 : x / 65536 % 256 < 256 := by omega
  have l3 : x / 16777216 % 256 < 256 := by omega
  generalize x % 256 = d0 at *
  generalize x / 256 % 256 = d1 at *
  generalize x / 65536 % 256 = d2 at *
  generalize x / 16777216 % 256 = d3 at *
  subst hf
  have hb : ∀ d, b2 (b1 d) % 16 ≤ 4 → b2 (b1 d) / 16 ≤ 4 → b2 (b1 d) < 256 := fun d _ _ => by omega
  have e1 : s1 (four d3 d2 d1 d0) = four (b1 d3) (b1 d2) (b1 d1) (b1 d0) := swar1 l3 l2 l1 l0
  have e2 : s2 (four (b1 d3) (b1 d2) (b1 d1) (b1 d0)) = four (b2 (b1 d3)) (b2 (b1 d2)) (b2 (b1 d1)) (b2 (b1 d0)) := swar2 k3.1 k2.1 k1.1 k0.1
  have e3 : s3 (four (b2 (b1 d3)) (b2 (b1 d2)) (b2 (b1 d1)) (b2 (b1 d0))) = four (b3 (b2 (b1 d3))) (b3 (b2 (b1 d2))) (b3 (b2 (b1 d1))) (b3 (b2 (b1 d0))) :=
    swar3 (hb _ k3.2.1 k3.2.2.1) (hb _ k2.2.1 k2.2.2.1) (hb _ k1.2.1 k1.2.2.1) (hb _ k0.2.1 k0.2.2.1) ⟨k3.2.1, k3.2.2.1⟩ ⟨k2.2.1, k2.2.2.1⟩ ⟨k1.2.1, k1.2.2.1⟩ ⟨k0.2.1, k0.2.2.1⟩
  rw [e1, e2, e3, k0.2.2.2.1, k1.2.2.2.1, k2.2.2.2.1, k3.2.2.2.1]
  exact swar_sum k3.2.2.2.2 k2.2.2.2.2 k1.2.2.2.2 k0.2.2.2.2

end Go.Proofs.YthobibjbpbnhnaaDoor
