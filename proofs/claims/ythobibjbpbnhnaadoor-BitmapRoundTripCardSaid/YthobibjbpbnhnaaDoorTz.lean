/-
  The walk of bits.TrailingZeros64 on a positive number below 2^31.
-/
import Derived.Test.YthobibjbpbnhnaaDoorIxp
import Derived.Test.YthobibjbpbnhnaaDoorBw
import Derived.Laws.BitsAllLaws
namespace Go.Proofs.YthobibjbpbnhnaaDoor
open Go.RowKit

/-- The table lies in its variable. -/
def Tab (w : World) : Prop := ∀ j, j < 64 → w.cell? ⟨0, j, none⟩ = some (.int .u8 (Lib.deBruijn64tab.getD j 0 : Nat))
theorem Tab.lt {w : World} (h : Tab w) : 0 < w.heap.size := by
  apply Nat.lt_of_not_le
  intro hle
  have h0 := h 0 (by decide)
  have hn : w.heap[0]? = none := Array.getElem?_eq_none (by omega)
  simp [World.cell?, hn] at h0
theorem Tab.keep {w w' : World} {B : Nat} (h : Tab w) (hb : Below B w w') (hB : 0 < B) : Tab w' := fun j hj => (hb.cell (p := ⟨0, j, none⟩) hB).trans (h j hj)

theorem tz_key (x a : Nat) (hx : x < 18446744073709551616) (hx0 : x ≠ 0) (hlow : x &&& (18446744073709551616 - x) = a) :
    IntKind.u64.wrap (bits BinOp.and IntKind.u64 (x : Int) (IntKind.u64.wrap (-(x : Int))) * 285870213051353865) / 288230376151711744 = ((a * 285870213051353865 % 18446744073709551616 / 288230376151711744 : Nat) : Int) := by
  have e1 : IntKind.u64.wrap (-(x : Int)) = ((18446744073709551616 - x : Nat) : Int) := by rw [IntKind.wrap_u64]; omega
  rw [e1, u64_and_nat x _ hx (by omega), hlow, IntKind.wrap_u64]
  omega

set_option maxRecDepth 100000 in
set_option maxHeartbeats 400000 in
theorem tz_core (x k i : Nat) (w : World) (hx0 : ((x : Int) == 0) = false)
    (key : IntKind.u64.wrap (bits BinOp.and IntKind.u64 (x : Int) (IntKind.u64.wrap (-(x : Int))) * 285870213051353865) / 288230376151711744 = (i : Int))
    (hi : i < 64) (hk : k < 64) (hcell : w.cell? ⟨0, i, none⟩ = some (.int .u8 (k : Int))) :
    Calls Tryd.prog 12 #[.int .u64 x] w fun e w' => e = .returned (.int .i64 k) ∧ w = w' := by
  go_enter Tryd.func12, Tryd.ntmps12
  go_wp2_with (simp only [key])
  go_ret
  exact ⟨rfl, rfl⟩

theorem tz64 (x : Nat) (w : World) (hx : x < 2147483648) (hx0 : x ≠ 0) (hT : Tab w) :
    Calls Tryd.prog 12 #[.int .u64 x] w fun e w' => e = .returned (.int .i64 (Lib.ctz 64 x : Nat)) ∧ w = w' := by
  obtain ⟨hlow, hk⟩ := Lib.lowest_bit 64 x hx0 (by omega)
  obtain ⟨hi, htab⟩ := Lib.deBruijn64_at _ hk
  have hcell := hT _ hi
  rw [htab] at hcell
  exact tz_core x _ _ w (by rw [beq_eq_false_iff_ne]; omega) (tz_key x _ (by omega) hx0 hlow) hi hk hcell

end Go.Proofs.YthobibjbpbnhnaaDoor
