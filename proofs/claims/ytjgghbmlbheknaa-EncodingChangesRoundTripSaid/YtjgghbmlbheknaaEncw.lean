/-
  The walks of encoding.appendUvarint, appendRow, EncodeRow.
-/
import Derived.Test.YtjgghbmlbheknaaCheck
import Derived.Test.YtjgghbmlbheknaaEnc
namespace Go.Proofs.Ytjgghbmlbheknaa
open Go.RowKit

theorem elem_u8 : ElemT Try.prog 24 5 1 1 := ⟨Try.underlying24, by
  have h : (Try.prog.info? 5).map (fun i => (i.zero, i.size, i.bytes)) = some (some (.int .u8 0), 1, 1) := by kernel_rfl
  obtain ⟨i0, hi, hz0, hz1, hz2⟩ := info_parts h
  exact ⟨i0, _, hi, hz0, hz1, hz2, rfl⟩, by omega⟩

/-- A slice of bytes of the call's own. -/
abbrev Buf (base : Nat) (w : World) (v : Value) (bs : List UInt8) : Prop := Own 1 byteCs 5 base w v bs

theorem byte_or (k : Nat) : (#[Value.int .u8 (bits .or .u8 ((k : Int) % 256) 128)] : Array Value).toList = byteCs (UInt8.ofNat (k % 128 + 128)) := by
  have e : bits .or .u8 ((k : Int) % 256) 128 = ((k % 128 + 128 : Nat) : Int) := by
    have h := u8_or_nat (k % 256) 128 (by omega) (by omega)
    have e1 : ((k % 256 : Nat) : Int) = (k : Int) % 256 := by omega
    rw [← e1]
    refine h.trans ?_
    have h2 : ∀ a, a < 256 → a ||| 128 = a % 128 + 128 := by decide +kernel
    have : (k % 256) ||| 128 = k % 128 + 128 := by rw [h2 _ (by omega)]; omega
    rw [this]
  rw [e]
  simp [byteCs]
  omega
theorem byte_lo (k : Nat) (h : k < 128) : (#[Value.int .u8 (k : Int)] : Array Value).toList = byteCs (UInt8.ofNat k) := by
  simp [byteCs]
  omega

set_option maxRecDepth 100000 in
set_option maxHeartbeats 400000 in
theorem appendUvarint (base : Nat) (v : Value) (xs : List UInt8) (m : Nat) (hm : IsU64 m) (w : World) (hown : Buf base w v xs) (hB : base ≤ w.heap.size) (hs : Small (xs.length + (encU m).length)) :
    Calls Try.prog 33 #[v, .int .u64 m] w fun e w' => ∃ v', e = .returned v' ∧ Buf base w' v' (xs ++ encU m) ∧ Ext w v w' v' := by
  go_enter Try.func33, Try.ntmps33
  go_wp2
  go_loopw [0, 1] (fun dst n wr => ∃ (k : Nat) (ys : List UInt8), IsU64 k ∧ n = .int .u64 k ∧ Buf base wr dst ys ∧ ys ++ encU k = xs ++ encU m ∧ Ext w v wr dst) (fun _ n _ => (intOf n).toNat)
  case atStart => exact ⟨m, xs, hm, rfl, hown, rfl, Ext.refl _ _⟩
  case round =>
    obtain ⟨k, ys, hk, rfl, ho, he, hx⟩ := hrel
    have hBr : base ≤ wr.heap.size := Nat.le_trans hB hx.size
    have HE := Lib.hid he
    clear he
    have hp := encU_pos k
    have hsy : Small (ys.length + 1) := hs.le (by have := congrArg List.length HE.out; simp only [List.length_append] at this; omega)
    by_cases hlt : 128 ≤ k
    · have HU := Lib.hid (encU_hi hlt)
      clear hp
      go_wp2_with (at_builtin; refine wpList_app rfl (.tmp 7) (.tmp 11) _ _ rfl rfl rfl (run_push elem_u8 byteLay _ wr u0 ys (UInt8.ofNat (k % 128 + 128)) _ ho (byte_or k) hsy.bytes hsy.maxLen hBr (by simp)) ?_; rintro v1 w1 ⟨ho1, hx1⟩)
      go_roundw
      case rel => exact ⟨k / 128, _, hk.le (Nat.div_le_self _ _), val_int (by omega), ho1, by rw [← HE.out, HU.out]; simp, hx.trans hx1⟩
      case measure => simp [intOf]; omega
    · have HU := Lib.hid (encU_lo (n := k) (by omega))
      clear hp
      go_wp2_with (at_builtin; refine wpList_app rfl (.tmp 15) (.tmp 18) _ _ rfl rfl rfl (run_push elem_u8 byteLay _ wr u0 ys (UInt8.ofNat k) _ ho (byte_lo k (by omega)) hsy.bytes hsy.maxLen hBr (by simp)) ?_; rintro v1 w1 ⟨ho1, hx1⟩)
      go_ret
      exact ⟨_, rfl, by rw [← HE.out, HU.out]; exact ho1, hx.trans hx1⟩

end Go.Proofs.Ytjgghbmlbheknaa
