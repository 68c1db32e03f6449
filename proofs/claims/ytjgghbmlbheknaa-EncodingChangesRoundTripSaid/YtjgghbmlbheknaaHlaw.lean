/-
  The walk of the law EncodingChangesRoundTrip.
-/
import Derived.Test.YtjgghbmlbheknaaHeq
import Derived.Test.YtjgghbmlbheknaaHop
namespace Go.Proofs.Ytjgghbmlbheknaa
open Go.RowKit

set_option maxRecDepth 100000 in
set_option maxHeartbeats 400000 in
theorem chgrt_law (A : Option Addr) (c : Nat) (is : List Chg) (w : World) (h : ChgsIn w (· < w.heap.size) A is) (hlc : is.length ≤ c) (hc : c ≤ maxLen) :
    Calls Try.prog 8 #[.slice A is.length c] w fun e w' => e = .returned (.bool true) ∧ Below w.heap.size w w' := by
  obtain ⟨ts, h⟩ := h
  have hl : is.length ≤ maxLen := Nat.le_trans hlc hc
  clear hlc hc
  by_cases he : chgsErr is = 0
  · have HC := Lib.hid (encodeChgs_ok A c ts is w h hl he)
    have HD := Lib.hid fun A1 c1 W => decodeChgs_ok A1 c1 is he W
    have hne : 0 < (encCs is).length := by unfold encCs; simp
    have hne' : (0 : Int) < ((encCs is).length : Int) := by omega
    have HH := Lib.hid h
    have HL := Lib.hid hl
    clear h hl he
    go_enter Try.func8, Try.ntmps8
    go_wp2_with fail
    refine HC.out.mono ?_
    rintro e w1 ⟨v1, rfl, ho1, hb1⟩
    obtain ⟨A1, c1, rfl, hc1, hm1⟩ := ho1.form
    have hel := (ho1.elems byteLay.len rfl).more (S' := (· < w1.heap.size)) fun k hk => (ho1.lt k hk).2
    have HD1 := Lib.hid (HD.out A1 c1 w1 hel hc1 hm1)
    have HB1 := Lib.hid hb1
    clear HC HD ho1 hel hb1 hc1 hm1
    go_wp2_with fail
    refine HD1.out.mono ?_
    rintro e w2 ⟨A2, c2, ts2, rfl, hi2, hb2⟩
    have HB2 := Lib.hid (HB1.out.trans (hb2.mono HB1.out.size))
    have HEQ := Lib.hid (changesEqual A2 A c2 c ts2 ts is w2 _ _ hi2 (HH.out.on HB2.out) HL.out)
    clear hi2 hb2 HD1
    go_wp2_with fail
    refine HEQ.out.mono ?_
    rintro e w3 ⟨rfl, n, rfl⟩
    go_wp2_with fail
    all_goals
      go_ret
      exact ⟨rfl, below_drewN HB2.out _⟩
  · have HC := Lib.hid (encodeChgs_no A c ts is w h hl he)
    have HK := Lib.hid fun W hW => checkChanges A c ts is W hW hl
    have HH := Lib.hid h
    have hne : (chgsErr is != 0) = true := by simp [he]
    clear h he hl
    generalize chgsErr is = er at *
    go_enter Try.func8, Try.ntmps8
    go_wp2_with fail
    refine HC.out.mono ?_
    rintro e w1 ⟨rfl, hb1⟩
    have HK1 := Lib.hid (HK.out w1 (HH.out.on hb1))
    have HB1 := Lib.hid hb1
    clear hb1 HK HC
    go_wp2_with fail
    refine HK1.out.mono ?_
    rintro e w2 ⟨rfl, hb2⟩
    go_wp2_with fail
    all_goals
      go_ret
      exact ⟨ret_bool (by simp), HB1.out.trans (hb2.mono HB1.out.size)⟩

end Go.Proofs.Ytjgghbmlbheknaa
