/-
  The walk of encoding.CheckRow.
-/
import Derived.Test.YtakbabkcidioaaaValidate
namespace Go.Proofs.Ytakbabkcidioaaa
open Go.RowKit

set_option maxHeartbeats 1000000 in
theorem checkRow (A : Option Addr) (c : Nat) (r : List Val) (w : World) (hr : Elems 3 Val.cs w (· < w.heap.size) A r) (hl : r.length ≤ maxLen) :
    Calls Try.prog 43 #[.slice A r.length c] w fun e w' => e = .returned (.int .i64 (rErr r)) ∧ Below w.heap.size w w' := by
  unfold maxLen at hl
  by_cases h12 : 12 < r.length
  · go_enter Try.func43, Try.ntmps43
    go_wp2
    go_ret
    exact ⟨ret_int (by simp [rErr, h12]), Below.refl _ _⟩
  · have HE : Hid (rErr r = rErrs (r.drop 0)) := by unfold Hid rErr; rw [if_neg h12]; rfl
    go_enter Try.func43, Try.ntmps43
    go_wp2
    go_loopw [11] (fun i wr => ∃ k : Nat, k ≤ r.length ∧ i = .int .i64 k ∧ rErr r = rErrs (r.drop k) ∧ Below w.heap.size w wr) (fun i _ => r.length - (intOf i).toNat)
    case atStart => exact ⟨0, by omega, rfl, HE.out, Below.refl _ _⟩
    case round =>
      obtain ⟨k, hk, rfl, he, hb⟩ := hrel
      have HE2 := Lib.hid he
      clear he HE
      by_cases hlt : k < r.length
      · have hd := rErrs_drop hlt
        have HD := Lib.hid hd
        clear hd
        obtain ⟨b, off, rfl, hbs, c0, c1, c2⟩ := (hr.keep (Keeps.of_below hb fun _ h => h)).val hlt
        generalize r[k] = x at *
        by_cases hz : x.err = 0
        · have hz' : (vErr x.kind x.int x.text != 0) = false := by have h := hz; unfold Val.err at h; simp [h]
          have HZ := Lib.hid hz
          clear hz
          go_wp2_with (go_at_call 59; refine (validate _ _ _ _).mono ?_; rintro e w1 ⟨rfl, hb1⟩)
          go_roundw
          case rel => exact ⟨k + 1, by omega, by go_num, by rw [HE2.out, HD.out, if_pos HZ.out], (hb.alloc (by have := hb.size; omega) _).trans (hb1.mono (by have := hb.size; simp; omega))⟩
          case measure => simp [intOf]; omega
        · have hz' : (vErr x.kind x.int x.text != 0) = true := by have h := hz; unfold Val.err at h; simp [h]
          have HZ := Lib.hid hz
          clear hz
          go_wp2_with (go_at_call 59; refine (validate _ _ _ _).mono ?_; rintro e w1 ⟨rfl, hb1⟩)
          go_ret
          exact ⟨ret_int (by rw [HE2.out, HD.out, if_neg HZ.out]; rfl), (hb.alloc (by have := hb.size; omega) _).trans (hb1.mono (by have := hb.size; simp; omega))⟩
      · go_wp2_with fail
        go_ret
        exact ⟨ret_int (by rw [HE2.out, List.drop_eq_nil_of_le (by omega)]; rfl), hb⟩

end Go.Proofs.Ytakbabkcidioaaa
