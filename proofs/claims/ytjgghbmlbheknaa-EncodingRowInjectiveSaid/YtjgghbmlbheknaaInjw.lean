/-
  The walk of the law EncodingRowInjective.
-/
import Derived.Test.YtjgghbmlbheknaaEncr
import Derived.Test.YtjgghbmlbheknaaEq
import Derived.Test.YtjgghbmlbheknaaDec
namespace Go.Proofs.Ytjgghbmlbheknaa
open Go.RowKit

theorem encR_pos (r : List Val) : 0 < (encR r).length := by simp [encR]

set_option maxRecDepth 100000 in
set_option maxHeartbeats 400000 in
theorem inj_law (A B : Option Addr) (c d : Nat) (xs ys : List Val) (w : World) (hx : Elems 3 Val.cs w (· < w.heap.size) A xs) (hy : Elems 3 Val.cs w (· < w.heap.size) B ys) (hl : xs.length ≤ maxLen) (hl2 : ys.length ≤ maxLen) :
    Calls Try.prog 3 #[.slice A xs.length c, .slice B ys.length d] w fun e w' => e = .returned (.bool true) ∧ Below w.heap.size w w' := by
  by_cases ha : rErr xs = 0
  · by_cases hb : rErr ys = 0
    · have hpos := encR_pos xs
      have hdec : decide (encR xs = encR ys) = decide (xs = ys) := by
        by_cases h : xs = ys
        · simp [h]
        · have : encR xs ≠ encR ys := fun e => h (encR_inj ha hb e)
          simp [h, this]
      have HD := Lib.hid hdec
      have HA := Lib.hid ha
      have HB := Lib.hid hb
      have HL1 : Hid ((encR xs).length ≤ maxLen) := by have := encR_len ha; unfold Hid maxLen; omega
      have HL2 : Hid ((encR ys).length ≤ maxLen) := by have := encR_len hb; unfold Hid maxLen; omega
      clear hdec ha hb
      go_enter Try.func3, Try.ntmps3
      go_wp2_with fail
      refine (encodeRow_ok A c xs w hx hl HA.out).mono ?_
      rintro e w1 ⟨v1, rfl, ho1, hb1⟩
      obtain ⟨A1, c1, rfl, _, _⟩ := ho1.form
      go_wp2_with fail
      refine (encodeRow_ok B d ys w1 ((hy.keep (Keeps.of_below hb1 fun _ h => h)).more fun k hk => Nat.lt_of_lt_of_le hk hb1.size) hl2 HB.out).mono ?_
      rintro e w2 ⟨v2, rfl, ho2, hb2⟩
      obtain ⟨A2, c2, rfl, _, _⟩ := ho2.form
      have hE1 := (ho1.below hb2).elems byteLay.len rfl
      have hE2 := ho2.elems byteLay.len rfl
      have HE1 := Lib.hid hE1
      have HE2 := Lib.hid hE2
      clear hE1 hE2
      go_wp2_with fail
      refine (bytesEqual A1 A2 c1 c2 _ _ w2 _ _ HE1.out HE2.out HL1.out HL2.out).mono ?_
      rintro e w3 ⟨rfl, n3, rfl⟩
      rw [HD.out]
      go_wp2_with fail
      refine (rowsEqual A B c d xs ys _ (· < w.heap.size) (· < w.heap.size) ((hx.keep (Keeps.of_below (hb1.trans (hb2.mono hb1.size)) fun _ h => h)).drewN n3) ((hy.keep (Keeps.of_below (hb1.trans (hb2.mono hb1.size)) fun _ h => h)).drewN n3) hl hl2).mono ?_
      rintro e w4 ⟨rfl, n4, rfl⟩
      go_wp2_with fail
      go_ret
      exact ⟨ret_bool (by simp), below_drewN (hb1.trans (hb2.mono hb1.size)) _⟩
    · have hz : (rErr ys != 0) = true := by simp [hb]
      have HA := Lib.hid ha
      have HB := Lib.hid hb
      clear ha hb
      go_enter Try.func3, Try.ntmps3
      go_wp2_with fail
      refine (encodeRow_ok A c xs w hx hl HA.out).mono ?_
      rintro e w1 ⟨v1, rfl, ho1, hb1⟩
      go_wp2_with fail
      refine (encodeRow_no B d ys w1 ((hy.keep (Keeps.of_below hb1 fun _ h => h)).more fun k hk => Nat.lt_of_lt_of_le hk hb1.size) hl2 HB.out).mono ?_
      rintro e w2 ⟨rfl, hb2⟩
      go_wp2_with fail
      go_ret
      exact ⟨rfl, hb1.trans (hb2.mono hb1.size)⟩
  · have hz : (rErr xs != 0) = true := by simp [ha]
    have HA := Lib.hid ha
    clear ha
    by_cases hb : rErr ys = 0
    · have HB := Lib.hid hb
      clear hb
      go_enter Try.func3, Try.ntmps3
      go_wp2_with fail
      refine (encodeRow_no A c xs w hx hl HA.out).mono ?_
      rintro e w1 ⟨rfl, hb1⟩
      go_wp2_with fail
      refine (encodeRow_ok B d ys w1 ((hy.keep (Keeps.of_below hb1 fun _ h => h)).more fun k hk => Nat.lt_of_lt_of_le hk hb1.size) hl2 HB.out).mono ?_
      rintro e w2 ⟨v2, rfl, ho2, hb2⟩
      go_wp2_with fail
      go_ret
      exact ⟨rfl, hb1.trans (hb2.mono hb1.size)⟩
    · have HB := Lib.hid hb
      clear hb
      go_enter Try.func3, Try.ntmps3
      go_wp2_with fail
      refine (encodeRow_no A c xs w hx hl HA.out).mono ?_
      rintro e w1 ⟨rfl, hb1⟩
      go_wp2_with fail
      refine (encodeRow_no B d ys w1 ((hy.keep (Keeps.of_below hb1 fun _ h => h)).more fun k hk => Nat.lt_of_lt_of_le hk hb1.size) hl2 HB.out).mono ?_
      rintro e w2 ⟨rfl, hb2⟩
      go_wp2_with fail
      go_ret
      exact ⟨rfl, hb1.trans (hb2.mono hb1.size)⟩

end Go.Proofs.Ytjgghbmlbheknaa
