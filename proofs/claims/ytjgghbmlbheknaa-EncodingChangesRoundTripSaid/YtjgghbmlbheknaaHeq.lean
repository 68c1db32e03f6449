/-
  The walk of ChangesEqual, where both sides say the same.
-/
import Derived.Test.YtjgghbmlbheknaaHdec
import Derived.Test.YtjgghbmlbheknaaIeq
namespace Go.Proofs.Ytjgghbmlbheknaa
open Go.RowKit

theorem rowsEqual_on {w W : World} {S T : Nat → Prop} {h1 h2 : Hd} {r : List Val} (a : RowH w S h1 r) (b : RowH w T h2 r) (hW : W.heap = w.heap) :
    Calls Try.prog 11 #[.slice h1.A r.length h1.c, .slice h2.A r.length h2.c] W fun e w' => e = .returned (.bool true) ∧ ∃ n, w' = W.drewN n := by
  have := rowsEqual h1.A h2.A h1.c h2.c r r W S T (a.el.keep fun _ _ => by rw [hW]) (b.el.keep fun _ _ => by rw [hW]) a.le a.le
  simpa using this

set_option maxRecDepth 100000 in
set_option maxHeartbeats 1000000 in
theorem changesEqual (A B : Option Addr) (c d : Nat) (ts us : List Ch) (is : List Chg) (w : World) (S T : Nat → Prop) (hx : ChgsH w S A ts is) (hy : ChgsH w T B us is) (hl : is.length ≤ maxLen) :
    Calls Try.prog 23 #[.slice A is.length c, .slice B is.length d] w fun e w' => e = .returned (.bool true) ∧ ∃ n, w' = w.drewN n := by
  unfold maxLen at hl
  have HX := Lib.hid hx
  have HY := Lib.hid hy
  clear hx hy
  go_enter Try.func23, Try.ntmps23
  go_wp2_with fail
  go_loopw [13] (fun i wr => ∃ k n : Nat, k ≤ is.length ∧ i = .int .i64 k ∧ wr = w.drewN n) (fun i _ => is.length - (intOf i).toNat)
  case atStart => exact ⟨0, 0, by omega, rfl, rfl⟩
  case round =>
    obtain ⟨k, n, hk, rfl, rfl⟩ := hrel
    by_cases hlt : k < is.length
    · obtain ⟨b, off, h1, rfl, _, c0, c1, c2, c3, r1⟩ := HX.out.at_ hlt
      obtain ⟨b', off', h2, rfl, _, d0, d1, d2, d3, r2⟩ := HY.out.at_ hlt
      have hi1 : (k : Int) < (is.length : Int) := by omega
      have hi0 : (0 : Int) ≤ (k : Int) := by omega
      have HRE := Lib.hid fun (m : Nat) => rowsEqual_on (W := w.drewN m) r1.old r2.old rfl
      have HRF := Lib.hid fun (m : Nat) => rowsEqual_on (W := w.drewN m) r1.new r2.new rfl
      clear r1 r2
      generalize is[k]'hlt = x at *
      obtain ⟨kd, nm, old, new⟩ := x
      obtain ⟨k1, n1, ⟨A1, m1, e1⟩, ⟨B1, l1, f1⟩⟩ := h1
      obtain ⟨k2, n2, ⟨A2, m2, e2⟩, ⟨B2, l2, f2⟩⟩ := h2
      simp only at c0 c1 c2 c3 d0 d1 d2 d3 HRE HRF
      go_wp2_with fail
      go_quiet (first | (go_at_call 11; first | (with_reducible exact quiet_at (HRE.out _)) | (with_reducible exact quiet_at (HRF.out _))))
      go_wp2_with fail
      go_roundw
      case rel => exact ⟨k + 1, _, by omega, by go_num, rfl⟩
      case measure => simp [intOf]; omega
    · go_wp2_with fail
      go_ret
      exact ⟨rfl, _, rfl⟩

end Go.Proofs.Ytjgghbmlbheknaa
