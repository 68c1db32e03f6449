/-
  The walks of the laws EncodingRowRoundTrip and EncodingDecodeIsCanonical.
-/
import Derived.Test.YtjgghbmlbheknaaDecr
import Derived.Test.YtjgghbmlbheknaaEq
namespace Go.Proofs.Ytjgghbmlbheknaa
open Go.RowKit

theorem acc_enc {r : List Val} (h : rErr r = 0) : Acc (encR r) ∧ (dRow (encR r, false)).1 = r := by
  have h1 := dRow_enc h []
  rw [List.append_nil] at h1
  unfold Acc
  rw [h1]
  exact ⟨⟨rfl, h, rfl⟩, rfl⟩

set_option maxRecDepth 100000 in
set_option maxHeartbeats 400000 in
theorem roundtrip_law (A : Option Addr) (c : Nat) (xs : List Val) (w : World) (hx : Elems 3 Val.cs w (· < w.heap.size) A xs) (hl : xs.length ≤ maxLen) :
    Calls Try.prog 4 #[.slice A xs.length c] w fun e w' => e = .returned (.bool true) ∧ Below w.heap.size w w' := by
  by_cases he : rErr xs = 0
  · obtain ⟨hacc, hr⟩ := acc_enc he
    have hpos : 0 < (encR xs).length := by simp [encR]
    have hle := encR_len he
    have HA := Lib.hid hacc
    have HR := Lib.hid hr
    have HE := Lib.hid he
    clear hacc hr he
    go_enter Try.func4, Try.ntmps4
    go_wp2_with fail
    refine (encodeRow_ok A c xs w hx hl HE.out).mono ?_
    rintro e w1 ⟨v1, rfl, ho1, hb1⟩
    obtain ⟨A1, c1, rfl, hc1, hm1⟩ := ho1.form
    go_wp2_with fail
    refine (decodeRow_any A1 c1 _ w1 ((ho1.elems byteLay.len rfl).more fun k hk => (ho1.lt k hk).2) hc1 hm1 (by omega)).mono ?_
    rintro e w2 ⟨hyes, _⟩
    obtain ⟨v2, rfl, ho2, hb2⟩ := hyes HA.out
    rw [HR.out] at ho2
    obtain ⟨A2, c2, rfl, _, _⟩ := ho2.form
    have hel := ho2.elems valLay.len rfl
    have hx2 := hx.keep (Keeps.of_below (hb1.trans (hb2.mono hb1.size)) fun _ h => h)
    clear ho2 ho1 hyes hx hc1 hm1
    go_wp2_with fail
    refine (rowsEqual A2 A c2 c xs xs w2 _ _ hel hx2 hl hl).mono ?_
    rintro e w3 ⟨rfl, n3, rfl⟩
    go_wp2_with fail
    go_ret
    exact ⟨ret_bool (by simp), below_drewN (hb1.trans (hb2.mono hb1.size)) _⟩
  · have hz : (rErr xs != 0) = true := by simp [he]
    have HE := Lib.hid he
    clear he
    go_enter Try.func4, Try.ntmps4
    go_wp2_with fail
    refine (encodeRow_no A c xs w hx hl HE.out).mono ?_
    rintro e w1 ⟨rfl, hb1⟩
    go_wp2_with fail
    refine (checkRow A c xs w1 ((hx.keep (Keeps.of_below hb1 fun _ h => h)).more fun k hk => Nat.lt_of_lt_of_le hk hb1.size) hl).mono ?_
    rintro e w2 ⟨rfl, hb2⟩
    go_wp2_with fail
    go_ret
    exact ⟨ret_bool (by simp), hb1.trans (hb2.mono hb1.size)⟩

set_option maxRecDepth 100000 in
set_option maxHeartbeats 400000 in
theorem canonical_law (A : Option Addr) (c : Nat) (xs : List UInt8) (w : World) (hx : Elems 1 byteCs w (· < w.heap.size) A xs) (hlc : xs.length ≤ c) (hc : c ≤ maxLen) :
    Calls Try.prog 6 #[.slice A xs.length c] w fun e w' => e = .returned (.bool true) ∧ Below w.heap.size w w' := by
  by_cases hlong : 65536 < xs.length
  · have HL := Lib.hid (Nat.le_trans hlc hc)
    clear hlc hc
    go_enter Try.func6, Try.ntmps6
    go_wp2_with fail
    refine (decodeRow_long A c xs w HL.out hlong).mono ?_
    rintro e w1 ⟨rfl, hb1⟩
    go_wp2_with fail
    go_ret
    exact ⟨rfl, hb1⟩
  · by_cases hacc : Acc xs
    · have he := hacc.2.1
      have hq := hacc.2.2
      have hrl := dRow_len (xs, false)
      have HL := Lib.hid (Nat.le_trans hlc hc)
      have HLC := Lib.hid hlc
      have HC := Lib.hid hc
      have HA := Lib.hid hacc
      have HE := Lib.hid he
      have HQ := Lib.hid hq
      have HRL := Lib.hid hrl
      clear hlc hc hacc he hq hrl
      go_enter Try.func6, Try.ntmps6
      go_wp2_with fail
      refine (decodeRow_any A c xs w hx HLC.out HC.out (by omega)).mono ?_
      rintro e w1 ⟨hyes, _⟩
      obtain ⟨v1, rfl, ho1, hb1⟩ := hyes HA.out
      clear hyes
      generalize (dRow (xs, false)).1 = r at *
      obtain ⟨A1, c1, rfl, _, _⟩ := ho1.form
      go_wp2_with fail
      refine (encodeRow_ok A1 c1 r w1 ((ho1.elems valLay.len rfl).more fun k hk => (ho1.lt k hk).2) HRL.out HE.out).mono ?_
      rintro e w2 ⟨v2, rfl, ho2, hb2⟩
      obtain ⟨A2, c2, rfl, _, _⟩ := ho2.form
      have hE2 := Lib.hid (ho2.elems byteLay.len rfl)
      have hx2 := Lib.hid (hx.keep (Keeps.of_below (hb1.trans (hb2.mono hb1.size)) fun _ h => h))
      have HL2 : Hid ((encR r).length ≤ maxLen) := by unfold Hid; rw [HQ.out]; exact HL.out
      clear hx ho1 ho2
      go_wp2_with fail
      refine (bytesEqual A2 A c2 c _ _ w2 _ _ hE2.out hx2.out HL2.out HL.out).mono ?_
      rintro e w3 ⟨rfl, n3, rfl⟩
      rw [HQ.out]
      go_wp2_with fail
      go_ret
      exact ⟨ret_bool (by simp), below_drewN (hb1.trans (hb2.mono hb1.size)) _⟩
    · have HLC := Lib.hid hlc
      have HC := Lib.hid hc
      have HA := Lib.hid hacc
      clear hlc hc hacc
      go_enter Try.func6, Try.ntmps6
      go_wp2_with fail
      refine (decodeRow_any A c xs w hx HLC.out HC.out (by omega)).mono ?_
      rintro e w1 ⟨_, hno⟩
      obtain ⟨rfl, hb1⟩ := hno HA.out
      clear hno
      go_wp2_with fail
      go_ret
      exact ⟨rfl, hb1⟩

end Go.Proofs.Ytjgghbmlbheknaa
