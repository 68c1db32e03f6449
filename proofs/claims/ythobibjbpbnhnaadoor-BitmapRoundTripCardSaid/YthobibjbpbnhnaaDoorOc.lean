/-
  The walk of bits.OnesCount64 on a number below 2^31.
-/
import Derived.Test.YthobibjbpbnhnaaDoorRows
import Derived.Test.YthobibjbpbnhnaaDoorSwar3
import Derived.Laws.BitsAllLaws
namespace Go.Proofs.YthobibjbpbnhnaaDoor
open Go.RowKit

theorem wrap_u64_small {n : Nat} (h : n < 18446744073709551616) : IntKind.u64.wrap (n : Int) = (n : Int) := by
  have e : (n : Int) % 2 ^ 64 = n := Int.emod_eq_of_lt (by omega) (by omega)
  simp [IntKind.wrap, IntKind.bits, IntKind.signed]
  omega

theorem u_s1 (x : Nat) (hx : x < 18446744073709551616) : IntKind.u64.wrap (bits .and .u64 ((x : Int) / 2) 6148914691236517205 + bits .and .u64 (x : Int) 6148914691236517205) = ((s1 x : Nat) : Int) := by
  have e1 : (x : Int) / 2 = ((x / 2 : Nat) : Int) := by omega
  have h1 := u64_and_nat (x / 2) 6148914691236517205 (by omega) (by omega)
  have h2 := u64_and_nat x 6148914691236517205 hx (by omega)
  have g1 : (x / 2) &&& 6148914691236517205 ≤ 6148914691236517205 := Nat.and_le_right
  have g2 : x &&& 6148914691236517205 ≤ 6148914691236517205 := Nat.and_le_right
  rw [e1]
  show IntKind.u64.wrap (bits .and .u64 ((x / 2 : Nat) : Int) ((6148914691236517205 : Nat) : Int) + bits .and .u64 ((x : Nat) : Int) ((6148914691236517205 : Nat) : Int)) = _
  rw [h1, h2, ← Int.natCast_add]
  exact wrap_u64_small (by omega)

theorem u_s2 (x : Nat) (hx : x < 18446744073709551616) : IntKind.u64.wrap (bits .and .u64 ((x : Int) / 4) 3689348814741910323 + bits .and .u64 (x : Int) 3689348814741910323) = ((s2 x : Nat) : Int) := by
  have e1 : (x : Int) / 4 = ((x / 4 : Nat) : Int) := by omega
  have h1 := u64_and_nat (x / 4) 3689348814741910323 (by omega) (by omega)
  have h2 := u64_and_nat x 3689348814741910323 hx (by omega)
  have g1 : (x / 4) &&& 3689348814741910323 ≤ 3689348814741910323 := Nat.and_le_right
  have g2 : x &&& 3689348814741910323 ≤ 3689348814741910323 := Nat.and_le_right
  rw [e1]
  show IntKind.u64.wrap (bits .and .u64 ((x / 4 : Nat) : Int) ((3689348814741910323 : Nat) : Int) + bits .and .u64 ((x : Nat) : Int) ((3689348814741910323 : Nat) : Int)) = _
  rw [h1, h2, ← Int.natCast_add]
  exact wrap_u64_small (by omega)
theorem s1_le (x : Nat) : s1 x ≤ 12297829382473034410 := by
  have g1 : (x / 2) &&& 6148914691236517205 ≤ 6148914691236517205 := Nat.and_le_right
  have g2 : x &&& 6148914691236517205 ≤ 6148914691236517205 := Nat.and_le_right
  unfold s1
  omega
theorem s2_le (x : Nat) : s2 x ≤ 7378697629483820646 := by
  have g1 : (x / 4) &&& 3689348814741910323 ≤ 3689348814741910323 := Nat.and_le_right
  have g2 : x &&& 3689348814741910323 ≤ 3689348814741910323 := Nat.and_le_right
  unfold s2
  omega
theorem s3_le (x : Nat) : s3 x ≤ 1085102592571150095 := Nat.and_le_right
theorem u_s3 (x : Nat) (hx : x ≤ 7378697629483820646) : bits .and .u64 (IntKind.u64.wrap ((x : Int) / 16 + (x : Int))) 1085102592571150095 = ((s3 x : Nat) : Int) := by
  have e1 : (x : Int) / 16 + (x : Int) = ((x / 16 + x : Nat) : Int) := by omega
  rw [e1, wrap_u64_small (by omega)]
  exact u64_and_nat (x / 16 + x) 1085102592571150095 (by omega) (by omega)
theorem u_s4 (x : Nat) (hx : x ≤ 1085102592571150095) : IntKind.u64.wrap ((x : Int) + (x : Int) / 256) = ((s4 x : Nat) : Int) := by
  have e1 : (x : Int) + (x : Int) / 256 = ((x + x / 256 : Nat) : Int) := by omega
  rw [e1]
  exact wrap_u64_small (by omega)
theorem s4_le {x : Nat} (hx : x ≤ 1085102592571150095) : s4 x ≤ 1200000000000000000 := by unfold s4; omega
theorem u_s5 (x : Nat) (hx : x ≤ 1200000000000000000) : IntKind.u64.wrap ((x : Int) + (x : Int) / 65536) = ((s5 x : Nat) : Int) := by
  have e1 : (x : Int) + (x : Int) / 65536 = ((x + x / 65536 : Nat) : Int) := by omega
  rw [e1]
  exact wrap_u64_small (by omega)
theorem s5_le {x : Nat} (hx : x ≤ 1200000000000000000) : s5 x ≤ 1300000000000000000 := by unfold s5; omega
theorem u_s6 (x : Nat) (hx : x ≤ 1300000000000000000) : IntKind.u64.wrap ((x : Int) + (x : Int) / 4294967296) = ((s6 x : Nat) : Int) := by
  have e1 : (x : Int) + (x : Int) / 4294967296 = ((x + x / 4294967296 : Nat) : Int) := by omega
  rw [e1]
  exact wrap_u64_small (by omega)
theorem s6_le {x : Nat} (hx : x ≤ 1300000000000000000) : s6 x ≤ 1400000000000000000 := by unfold s6; omega

set_option maxRecDepth 100000 in
set_option maxHeartbeats 400000 in
theorem onesCount (x : Nat) (w : World) (hx : x < 2147483648) :
    Calls Tryd.prog 15 #[.int .u64 x] w fun e w' => e = .returned (.int .i64 (pc 31 x)) ∧ w = w' := by
  have HX := Lib.hid hx
  clear hx
  go_enter Tryd.func15, Tryd.ntmps15
  go_wp2_with fail
  go_ret
  refine ⟨ret_int ?_, rfl⟩
  have hx := HX.out
  have k1 := s1_le x
  have k2 := s2_le (s1 x)
  have k3 := s3_le (s2 (s1 x))
  have k4 := s4_le k3
  have k5 := s5_le k4
  have k6 := s6_le k5
  rw [u_s1 x (by omega), u_s2 _ (by omega), u_s3 _ k2, u_s4 _ k3, u_s5 _ k4, u_s6 _ k5]
  have hs := swar x hx
  generalize s6 (s5 (s4 (s3 (s2 (s1 x))))) = z at *
  have hw : wrap64 (z : Int) = (z : Int) := by unfold wrap64; omega
  have hb := bits_mask .i64 62 (by decide) (fun n h0 h1 => by rw [IntKind.wrap_i64]; omega) 7 (by decide) (z : Int) (by omega) (by omega)
  have e7 : ((2 : Int) ^ 7 - 1) = 127 := by decide
  have e8 : ((2 : Int) ^ 7) = 128 := by decide
  rw [e7, e8] at hb
  rw [hw, hb, ← hs]
  omega

end Go.Proofs.YthobibjbpbnhnaaDoor
