/-
  The walks of the reference's LessValue and CompareRows at rows of one integer.
-/
import Derived.Test.YtlgjkhdpinnccaaIr
import Derived.Deep.RegionLaw
namespace Go.Proofs.Ytlgjkhdpinnccaa
open Go.RowKit Go.Sort

set_option maxRecDepth 100000 in
theorem lessVal (x y : Int) (hxy : x < y) (w : World) :
    Calls Try.prog 39 #[.agg #[.int .i64 1, .int .i64 x, .string ByteArray.empty], .agg #[.int .i64 1, .int .i64 y, .string ByteArray.empty]] w fun e w' => e = .returned (.bool true) ∧ Below w.heap.size w w' := by
  have hne : (x != y) = true := by simp; omega
  have hne2 : ¬ x = y := by omega
  have HB : Hid (∀ o o', Below w.heap.size w ((w.alloc o).alloc o')) := Lib.hid fun o o' => ((Below.refl _ _).alloc (Nat.le_refl _) o).alloc (le_size1 (Nat.le_refl _) _) o'
  go_enter Try.func39, Try.ntmps39
  go_wp2_with fail
  go_ret
  exact ⟨by simp, HB.out _ _⟩

set_option maxRecDepth 100000 in
theorem refCmp (A B : Option Addr) (c d : Nat) (x y : Int) (hxy : x < y) (w : World) (S T : Nat → Prop) (hx : Elems 3 Val.cs w S A [⟨1, x, ByteArray.empty⟩]) (hy : Elems 3 Val.cs w T B [⟨1, y, ByteArray.empty⟩]) :
    Calls Try.prog 21 #[.slice A 1 c, .slice B 1 d] w fun e w' => e = .returned (.int .i64 (-1)) ∧ Below w.heap.size w w' := by
  obtain ⟨ba, oa, rfl, -, a0, a1, a2⟩ := hx.val (k := 0) (by simp)
  obtain ⟨bb, ob, rfl, -, b0, b1, b2⟩ := hy.val (k := 0) (by simp)
  simp only [List.getElem_cons_zero, Nat.zero_mul, Nat.add_zero] at a0 a1 a2 b0 b1 b2
  have HL := Lib.hid (lessVal x y hxy w.drew)
  have HB : Hid (Below w.heap.size w w.drew) := Lib.hid (Below.refl _ _).drew
  clear hx hy
  go_enter Try.func21, Try.ntmps21
  go_wp2_with fail
  go_loopw [5] (fun vi wr => vi = .int .i64 (0 : Int) ∧ w = wr) (fun _ _ => 0)
  case atStart => exact ⟨rfl, rfl⟩
  case round =>
    obtain ⟨rfl, rfl⟩ := hrel
    go_wp2_with fail
    go_region_law (first
      | (go_simp; go_at_call 39; refine HL.out.mono ?_; rintro e w2 ⟨rfl, hb2⟩; have HB2 := Lib.hid (HB.out.trans hb2); clear hb2))
    all_goals
      go_wp2_with fail
      go_ret
      exact ⟨rfl, HB2.out⟩
end Go.Proofs.Ytlgjkhdpinnccaa
