/-
  The walk of rotate.
-/
import Derived.Test.YtimndhnbbmedbaaStx
namespace Go.Proofs.Ytimndhnbbmedbaa
open Go.RowKit Go.Sort

theorem SB.here {w0 w : World} {g n : Nat} {f : Nat → Run} (h : SB w0 g n w f) : SB w g n w f := ⟨World.grownBy.refl _ _, h.blk⟩
theorem SB.trans {w0 w1 w2 : World} {g n : Nat} {f f2 : Nat → Run} (h : SB w0 g n w1 f) (k : SB w1 g n w2 f2) : SB w0 g n w2 f2 := ⟨h.only.trans k.only, k.blk⟩

theorem swapRange_at (g n c a b m : Nat) (x y z : Int) (hx : x = (a : Int)) (hy : y = (b : Int)) (hz : z = (m : Int)) (fn : Value) (f : Nat → Run) (w0 w : World) (h : SB w0 g n w f) (ha : a + m ≤ b) (hb : b + m ≤ n) (hn : n ≤ 1000) :
    Calls Try.prog 38 #[.slice (some ⟨g, 0, none⟩) n c, .int .i64 x, .int .i64 y, .int .i64 z, fn] w fun e w' => e = .returned (.tuple #[]) ∧ SB w0 g n w' (swr f a b m) := by
  subst hx hy hz
  exact (swapRange g n c a b m fn f w h.here ha hb hn).mono fun e w' ⟨h1, h2⟩ => ⟨h1, h.trans h2⟩

set_option maxRecDepth 100000 in
set_option maxHeartbeats 4000000 in
theorem rotate (g n c a m b : Nat) (fn : Value) (f : Nat → Run) (w : World) (h : SB w g n w f) (ham : a < m) (hmb : m < b) (hb : b ≤ n) (hn : n ≤ 1000) :
    Calls Try.prog 36 #[.slice (some ⟨g, 0, none⟩) n c, .int .i64 a, .int .i64 m, .int .i64 b, fn] w fun e w' => e = .returned (.tuple #[]) ∧ SB w g n w' (rot f a m b) ∧ Sw a b f (rot f a m b) := by
  have H0 := Lib.hid h
  clear h
  have HR : Hid (rot f (m - (m - a)) m (m + (b - m)) = rot f a m b) := Lib.hid (by rw [show m - (m - a) = a by omega, show m + (b - m) = b by omega])
  have x1 : (m : Int) - (a : Int) = ((m - a : Nat) : Int) := by omega
  have x2 : (b : Int) - (m : Int) = ((b - m : Nat) : Int) := by omega
  have HX := Lib.hid (And.intro x1 x2)
  clear x1 x2
  go_enter Try.func36, Try.ntmps36
  go_wp2_with fail
  go_loopw [10, 11] (fun vi vj wr => ∃ (i j : Nat) (h : Nat → Run), vi = .int .i64 i ∧ vj = .int .i64 j ∧ 1 ≤ i ∧ 1 ≤ j ∧ a + i ≤ m ∧ m + j ≤ b ∧ SB w g n wr h ∧ Sw a b f h ∧ rot h (m - i) m (m + j) = rot f a m b) (fun vi vj _ => (intOf vi).toNat + (intOf vj).toNat)
  case atStart => exact ⟨m - a, b - m, f, val_int HX.out.1, val_int HX.out.2, by omega, by omega, by omega, by omega, H0.out, .refl, HR.out⟩
  case round =>
    obtain ⟨i, j, h, rfl, rfl, hi, hj, hai, hjb, hs, hsw, hr⟩ := hrel
    clear H0 HR HX
    have HS := Lib.hid hs
    have HSW := Lib.hid hsw
    have HR := Lib.hid hr
    clear hs hsw hr
    rcases Nat.lt_trichotomy i j with hij | hij | hij
    · have hne : ((i : Int) != (j : Int)) = true := by rw [bne_iff_ne]; omega
      have hgt : ¬ ((j : Int) < (i : Int)) := by omega
      go_wp2_with fail
      refine (swapRange_at g n c (m - i) (m + j - i) i _ _ _ (by omega) (by omega) (by omega) fn h w _ HS.out (by omega) (by omega) hn).mono ?_
      rintro e w1 ⟨rfl, hs1⟩
      have HS1 := Lib.hid hs1
      clear hs1
      go_wp2_with fail
      go_roundw
      case rel => exact ⟨i, j - i, _, rfl, by congr 1; omega, hi, by omega, hai, by omega, HS1.out, HSW.out.trans (swr_sw h i (by omega) (by omega) (by omega) (by omega)), by rw [rot_lt h (by omega) hij]; exact HR.out⟩
      case measure => simp [intOf]; omega
    · subst hij
      go_wp2_with fail
      refine (swapRange_at g n c (m - i) m i _ _ _ (by omega) (by omega) (by omega) fn h w _ HS.out (by omega) (by omega) hn).mono ?_
      rintro e w1 ⟨rfl, hs1⟩
      have e1 : swr h (m - i) m i = rot f a m b := by rw [rot_eq h (by omega)]; exact HR.out
      have HSS := Lib.hid (HSW.out.trans (swr_sw h (lo := a) (hi := b) (a := m - i) (b := m) i (by omega) (by omega) (by omega) (by omega)))
      rw [e1] at hs1 HSS
      go_wp2_with fail
      go_end0
      exact ⟨rfl, hs1, HSS.out⟩
    · have hne : ((i : Int) != (j : Int)) = true := by rw [bne_iff_ne]; omega
      go_wp2_with fail
      refine (swapRange_at g n c (m - i) m j _ _ _ (by omega) (by omega) (by omega) fn h w _ HS.out (by omega) (by omega) hn).mono ?_
      rintro e w1 ⟨rfl, hs1⟩
      have HS1 := Lib.hid hs1
      clear hs1
      go_wp2_with fail
      go_roundw
      case rel => exact ⟨i - j, j, _, by congr 1; omega, rfl, by omega, hj, by omega, hjb, HS1.out, HSW.out.trans (swr_sw h j (by omega) (by omega) (by omega) (by omega)), by rw [rot_gt h (by omega) hij]; exact HR.out⟩
      case measure => simp [intOf]; omega

end Go.Proofs.Ytimndhnbbmedbaa
