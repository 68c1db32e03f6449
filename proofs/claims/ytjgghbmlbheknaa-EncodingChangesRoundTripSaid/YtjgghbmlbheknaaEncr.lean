/-
  The walk of encoding.EncodeRow.
-/
import Derived.Test.YtjgghbmlbheknaaAppr
namespace Go.Proofs.Ytjgghbmlbheknaa
open Go.RowKit

/-- What EncodeRow leaves where the row is valid. -/
def EncPost (w : World) (r : List Val) (e : Ending) (w' : World) : Prop :=
  ∃ v, e = .returned (.tuple #[v, .int .i64 0]) ∧ Buf w.heap.size w' v (encR r) ∧ Below w.heap.size w w'

theorem small_encR {r : List Val} (h : rErr r = 0) : Small (([] : List UInt8).length + (encR r).length) := by
  have := encR_len h
  unfold Small
  simp only [List.length_nil]
  omega

set_option maxRecDepth 100000 in
set_option maxHeartbeats 400000 in
theorem encodeRow_no (A : Option Addr) (c : Nat) (r : List Val) (w : World) (hr : Elems 3 Val.cs w (· < w.heap.size) A r) (hl : r.length ≤ maxLen) (he : rErr r ≠ 0) :
    Calls Try.prog 9 #[.slice A r.length c] w fun e w' => e = .returned (.tuple #[.slice none 0 0, .int .i64 (rErr r)]) ∧ Below w.heap.size w w' := by
  have hz : (rErr r != 0) = true := by simp [he]
  clear he
  go_enter Try.func9, Try.ntmps9
  go_wp2_with (go_at_call 12; refine (checkRow A c r w hr hl).mono ?_; rintro e w1 ⟨rfl, hb1⟩)
  go_ret2
  exact ⟨rfl, hb1⟩

set_option maxRecDepth 100000 in
set_option maxHeartbeats 400000 in
theorem encodeRow_ok (A : Option Addr) (c : Nat) (r : List Val) (w : World) (hr : Elems 3 Val.cs w (· < w.heap.size) A r) (hl : r.length ≤ maxLen) (he : rErr r = 0) :
    Calls Try.prog 9 #[.slice A r.length c] w (EncPost w r) := by
  have hz : (rErr r != 0) = false := by simp [he]
  have hs := small_encR he
  have H := Lib.hid he
  clear he
  go_enter Try.func9, Try.ntmps9
  go_wp2_with (first
    | (go_at_call 12; refine (checkRow A c r w hr hl).mono ?_; rintro e w1 ⟨rfl, hb1⟩)
    | (go_at_call 24; refine (appendRow w.heap.size (.slice none 0 0) [] A c r w1 (· < w.heap.size) (Own.nil _) hb1.size (hr.keep (Keeps.of_below hb1 fun _ h => h)) (fun k hk => ⟨Nat.lt_of_lt_of_le hk hb1.size, fun h => nomatch h⟩) H.out hs).mono ?_; rintro e w2 ⟨v2, rfl, ho2, hx2⟩))
  go_ret2
  exact ⟨v2, rfl, ho2, hb1.trans (hx2.below_nil.mono hb1.size)⟩

end Go.Proofs.Ytjgghbmlbheknaa
